/-
  What the statement needs, part 3.
-/
import Derived.ChangeKeysEq
import Derived.Test.YtihpgmbinhmmlaaDoorSort
import Derived.Test.YtihpgmbinhmmlaaDoorSb2
namespace Go.Proofs.YtihpgmbinhmmlaaDoor
open Go.RowKit
attribute [local go_sem ↓] Go.wp_at_zero Go.wp_at_succ
set_option maxRecDepth 20000
set_option exponentiation.threshold 5000

section
variable {w0 w w' : World} {F F' : List Fact} {K r : (Nat → Prop) → World → Prop}
theorem St.perm (h : St w0 w F K) (hp : F'.Perm F) : St w0 w F' K :=
  ⟨h.below, fun f hf => h.holds f (hp.mem_iff.1 hf), (hp.pairwise_iff (fun {f g} hfg k hk e => hfg k e hk)).2 h.apart, h.stable, h.stable _ _ _ _ h.ro (Nat.le_refl _) (fun _ _ _ _ h => h) fun _ h1 _ _ f hf => h1 f (hp.mem_iff.1 hf)⟩
theorem St.nils (h : St w0 w F K) (e : TypeId) (size : Nat) : ∀ n, St w0 w (List.replicate n (.own (.slice none 0 0) e size 0 []) ++ F) K
  | 0 => h
  | n + 1 => by rw [List.replicate_succ, List.cons_append]; exact (St.nils h e size n).nil e size
theorem St.ret2 (h : St w0 w F K) (hb : Below w.heap.size w w') (hr : Stable r) (hh : r (fun b => Free F b ∨ w.heap.size ≤ b) w') : St w0 w' F fun D w => K D w ∧ r D w :=
  (h.ext hb).add hr hh fun b h1 _ => h1.elim id fun h1 => h.fresh h1
end
section
variable {P : Program} {o : Oper} {a : Act} {w : World} {K : Act → World → Prop} {Q : Exit → Act → World → Prop}
theorem opw_mk (l c : Operand) (t : TypeId) (ho : o.op = .makeSlice t l c) {e : TypeId} {size bytes : Nat} (hT : SliceTy P t e size bytes) (kl kc : IntKind) (n : Nat) (zs : Array Value) (hl : a.eval l = .int kl n) (hcap : a.eval c = .int kc n) (hz : zeroCells P e = zs) (hb : bytes * n ≤ 281474976710656) (h63 : n ≤ 1000000000000)
    (hk : ∀ w', w'.ownsRow w.heap.size e size (.slice (some ⟨w.heap.size, 0, none⟩) n n) n (madeCells zs (n * size)).toList → Below w.heap.size w w' → K (a.put o.dst (.slice (some ⟨w.heap.size, 0, none⟩) n n)) w') : o.wp P a w K Q := by
  obtain ⟨i, z, hi, hz', h2, h3, h4, h5⟩ := hT.get
  have hzc : zs = z.cells := by rw [← hz]; simp [zeroCells, hi, hz']
  subst hzc
  obtain ⟨w', hrun, r1, r2⟩ := run_make_full (P := P) w w.heap.size t e i z size hT.under hi hz' h2 kl kc n (by rw [h3]; exact hb) (by unfold maxLen; omega) (Nat.le_refl _)
  unfold Oper.wp
  simp [execOp, ho, hl, hcap, hrun, Result.andThen]
  exact hk _ r1 ((Below.refl _ _).grown r2 (Nat.le_refl _) (by simp))
end
section
variable {P : Program} {o : Oper} {a : Act} {w : World} {K : Act → World → Prop} {Q : Exit → Act → World → Prop}
theorem run_store_own1 {base g n cap size i : Nat} {e ty : TypeId} {xs : List Value} {u : Value} (h : w.ownsRow base e size (.slice (some ⟨g, 0, none⟩) n cap) n xs) (hi : i < n * size) (h1 : u.oneCell' = true) (hs : (P.info? ty).map (·.size) = some 1) :
    (Instr.storeAt ty (.pointer (some ⟨g, i, none⟩)) (.agg #[u])).run P w = .ok () (w.setCell ⟨g, i, none⟩ u) := by
  obtain ⟨cs, h2, h3, _⟩ := own_box h
  have hc := h2.cell i
  have hf := h2.free i
  have := run_storeCells_cells (P := P) g i [u] 0 w (fun j hj => by simp at hj; subst hj; simp [hc]; omega) (fun j hj => by simp at hj; subst hj; simpa using hf) (by simpa using h1)
  cases hq : P.info? ty with
  | none => simp [hq] at hs
  | some inf =>
    have hs' : inf.size = 1 := by simpa [hq] using hs
    simp only [Nat.add_zero] at this
    simp [Instr.storeAt, Instr.sureAddr, storeVar, sizeOf, typeInfo, hq, Value.cells, hs', this, World.setCells]
theorem opw_ostore1 {ty e : TypeId} {x y : Operand} {g i base n cap size : Nat} {u : Value} {xs : List Value} (ho : o.op = .store ty x y) (hx : a.eval x = .pointer (some ⟨g, i, none⟩)) (hy : a.eval y = .agg #[u]) (hown : w.ownsRow base e size (.slice (some ⟨g, 0, none⟩) n cap) n xs) (hi : i < n * size)
    (h1 : u.oneCell' = true) (hs : (P.info? ty).map (·.size) = some 1) (hk : ∀ w', w'.ownsRow base e size (.slice (some ⟨g, 0, none⟩) n cap) n (xs.set i u) → Upd g w w' → K (a.put o.dst undef) w') : o.wp P a w K Q := by
  unfold Oper.wp execOp
  simp only [ho, hx, hy, Sem.run_bind, run_store_own1 hown hi h1 hs, Result.andThen_ok]
  exact hk _ (hown.stored i u).1 (upd_setCell w g i u)
theorem opw_oload1 {t : TypeId} {x : Operand} {g i base n cap : Nat} {e : TypeId} {xs : List Value} {u : Value} {d : TypeDesc} (ho : o.op = .load t x) (hx : a.eval x = .pointer (some ⟨g, i, none⟩)) (hown : w.ownsRow base e 1 (.slice (some ⟨g, 0, none⟩) n cap) n xs) (hu : xs[i]? = some u)
    (ht : P.underlying t = some d) (hd : d.isRow = true) (hs : (P.info? t).map (·.size) = some 1) (hk : K (a.put o.dst (.agg #[u])) w) : o.wp P a w K Q :=
  opw_mid (cs := [u]) ho hx (fun j v hj => by
    have : j = 0 := by
      rcases Nat.eq_zero_or_pos j with h | h
      · exact h
      · rw [List.getElem?_eq_none (by simp; omega)] at hj; cases hj
    subst this
    simp at hj; subst hj
    exact own_cell hown i _ hu) ht hd hs hk
end
theorem lit_of {tm : Array Value} {n : Nat} (h : tm.size = n) : tm = ((List.range n).map fun i => tm.getD i undef).toArray := by
  apply Array.ext
  · simp [h]
  · intro i h1 h2
    simp [h1]
theorem set_one {w : World} {D : Nat → Prop} {v : Value} {N : Nat} (h : IsSet w D v N) : ∃ u, v = .agg #[u] ∧ u.oneCell' = true := by
  obtain ⟨u, l, rfl, _, _, _, A, c, rfl, _⟩ := h
  exact ⟨_, rfl, rfl⟩
theorem ints_natA (l : List Nat) (k : Nat) (h : k < l.length) : (ints (natInts l))[k]? = some (.int .i64 (l.getD k 0 : Nat)) := by
  simp [ints, natInts, List.getElem?_eq_getElem h, List.getD_eq_getElem?_getD]
theorem low_of {w0 w : World} {F : List Fact} {K : (Nat → Prop) → World → Prop} (h : St w0 w F K) : ∀ f ∈ F, f.low w.heap.size := fun f hf => by
  cases f with
  | obj g o => exact .inr ⟨g, o, rfl, h.lt hf rfl⟩
  | box => exact .inl rfl
  | own => exact .inl rfl
def famF (dv : Nat → Value) (g : Nat → List Nat) (n : Nat) : List Fact := (List.range n).map fun k => .own (dv k) 3 1 (g k).length (ints (natInts (g k)))
theorem famF_len (dv : Nat → Value) (g : Nat → List Nat) (n : Nat) : (famF dv g n).length = n := by simp [famF]
theorem fam_at {dv : Nat → Value} {g : Nat → List Nat} {n k : Nat} (h : k < n) : (famF dv g n)[k]? = some (.own (dv k) 3 1 (g k).length (ints (natInts (g k)))) := by simp [famF, h]
theorem fam_set (dv : Nat → Value) (g : Nat → List Nat) (n k : Nat) (v : Value) (l : List Nat) : (famF dv g n).set k (.own v 3 1 l.length (ints (natInts l))) = famF (fun j => if j = k then v else dv j) (fun j => if j = k then l else g j) n := by
  apply List.ext_getElem
  · simp [famF]
  · intro j h1 h2
    simp only [famF, List.getElem_set, List.getElem_map, List.getElem_range]
    by_cases e : k = j
    · subst e; simp
    · rw [if_neg e, if_neg (fun h => e h.symm), if_neg (fun h => e h.symm)]
theorem fam_nil (n : Nat) : famF (fun _ => .slice none 0 0) (fun _ => []) n = List.replicate n (.own (.slice none 0 0) 3 1 0 []) := by
  apply List.ext_getElem <;> simp [famF, ints, natInts]
theorem St.fam {w0 w : World} {H F0 : List Fact} {K : (Nat → Prop) → World → Prop} {dv : Nat → Value} {g : Nat → List Nat} {n : Nat} (h : St w0 w (H ++ (famF dv g n ++ F0)) K) {k : Nat} (hk : k < n) : w.ownsRow w0.heap.size 3 1 (dv k) (g k).length (ints (natInts (g k))) :=
  h.holds (.own (dv k) 3 1 (g k).length (ints (natInts (g k)))) (List.mem_append_right _ (List.mem_append_left _ (List.mem_of_getElem? (fam_at hk))))
theorem St.updFam {w0 w w' : World} {H F0 : List Fact} {K : (Nat → Prop) → World → Prop} {dv : Nat → Value} {g : Nat → List Nat} {n : Nat} (h : St w0 w (H ++ (famF dv g n ++ F0)) K) {k : Nat} (hk : k < n) (v : Value) (l : List Nat) (hg : w.grownBy w' (dv k).ownBlock)
    (ho : w'.ownsRow w0.heap.size 3 1 v l.length (ints (natInts l))) (hb : ∀ x, v.ownBlock = some x → (dv k).ownBlock = some x ∨ w.heap.size ≤ x) : St w0 w' (H ++ (famF (fun j => if j = k then v else dv j) (fun j => if j = k then l else g j) n ++ F0)) K := by
  have hi : (H ++ (famF dv g n ++ F0))[H.length + k]? = some (.own (dv k) 3 1 (g k).length (ints (natInts (g k)))) := by
    rw [List.getElem?_append_right (by omega), Nat.add_sub_cancel_left, List.getElem?_append_left (by rw [famF_len]; exact hk), fam_at hk]
  have h1 := h.upd _ hi (.own v 3 1 l.length (ints (natInts l))) hg ho hb
  rw [List.set_append_right _ _ (by omega), Nat.add_sub_cancel_left, List.set_append_left _ _ (by rw [famF_len]; exact hk), fam_set] at h1
  exact h1
theorem dv_set (dv : Nat → Value) (n k : Nat) (v : Value) : ((List.range n).map dv).set k v = (List.range n).map (fun j => if j = k then v else dv j) := by
  apply List.ext_getElem
  · simp
  · intro j h1 h2
    simp only [List.getElem_set, List.getElem_map, List.getElem_range]
    by_cases e : k = j
    · subst e; simp
    · rw [if_neg e, if_neg (fun h => e h.symm)]
theorem dv_at {dv : Nat → Value} {n k : Nat} (h : k < n) : ((List.range n).map dv)[k]? = some (dv k) := by simp [h]
theorem dirs_le (L : List (Nat × Nat)) (b : Nat) : (dirs L b).length ≤ L.length := by
  unfold dirs; rw [List.length_map]; exact List.length_filter_le _ _
theorem dirs_take (L : List (Nat × Nat)) : dirs (L.take 0) = fun _ => [] := by funext b; simp [dirs]
def SetsX (xs : List Value) (n : Nat) (f : Nat → Nat) (D : Nat → Prop) (w : World) : Prop := ∀ k, k < n → ∃ u, xs[k]? = some u ∧ IsSet w D (.agg #[u]) (f k)
theorem stable_setsX {xs : List Value} {n : Nat} {f : Nat → Nat} : Stable (SetsX xs n f) := fun D D' w w' h a b c k hk => by
  obtain ⟨u, h1, h2⟩ := h k hk
  exact ⟨u, h1, stable_set D D' w w' h2 a b c⟩
theorem SetsX.zero (n : Nat) (D : Nat → Prop) (w : World) : SetsX (List.replicate n (.slice none 0 0)) n (fun _ => 0) D w := fun k hk => ⟨.slice none 0 0, by simp [hk], IsSet.empty⟩
theorem SetsX.set {xs : List Value} {n k N : Nat} {f : Nat → Nat} {D : Nat → Prop} {w : World} {u : Value} (h : SetsX xs n f D w) (hl : xs.length = n) (hu : IsSet w D (.agg #[u]) N) : SetsX (xs.set k u) n (fun j => if j = k then N else f j) D w := fun j hj => by
  by_cases e : k = j
  · subst e; exact ⟨u, by simp [hl, hj], by simpa using hu⟩
  · obtain ⟨v, h1, h2⟩ := h j hj
    refine ⟨v, by rw [List.getElem?_set_ne e]; exact h1, ?_⟩
    have : ¬ j = k := fun h => e h.symm
    simpa [this] using h2
theorem SetsX.congr {xs : List Value} {n : Nat} {f g : Nat → Nat} {D : Nat → Prop} {w : World} (h : SetsX xs n f D w) (e : ∀ k, k < n → f k = g k) : SetsX xs n g D w := fun k hk => by rw [← e k hk]; exact h k hk
theorem ty_sets : SliceTy Tryd.prog 67 31 1 24 := ⟨Tryd.underlying67, by kernel_rfl⟩
theorem ty_rows : SliceTy Tryd.prog 86 22 1 24 := ⟨Tryd.underlying86, by kernel_rfl⟩
theorem mk_nils (n : Nat) : (madeCells #[Value.slice none 0 0] (n * 1)).toList = List.replicate n (.slice none 0 0) := by rw [Nat.mul_one, toList_madeCells_one]

structure Two where
  a : Option Nat
  b : Option Nat
  s : Bool
  t : Bool
def rowOf (n : Nat) : Option Nat → List Fact
  | some g => [.own (.slice (some ⟨g, 0, none⟩) n n) 31 1 n (List.replicate n (.slice none 0 0))]
  | none => []
def slOf (n : Nat) : Option Nat → Bool → Value
  | some g, true => .slice (some ⟨g, 0, none⟩) n n
  | _, _ => .slice none 0 0
def Two.F (q n : Nat) (pv sv : Value) (x : Two) : List Fact := .box q 69 #[.int .i64 (n : Nat), pv, slOf n x.a x.s, slOf n x.b x.t, sv] :: (rowOf n x.a ++ rowOf n x.b)
section
variable {w0 : World} {K : (Nat → Prop) → World → Prop} {Y : List Fact} {q n : Nat} {pv sv : Value} {p p' : World × Two}
def TwoJ (w0 : World) (K : (Nat → Prop) → World → Prop) (Y : List Fact) (q n : Nat) (pv sv : Value) (p : World × Two) : Prop := St w0 p.1 (Two.F q n pv sv p.2 ++ Y) K
def TwoR (w0 : World) (K : (Nat → Prop) → World → Prop) (Y : List Fact) (q n : Nat) (pv sv : Value) (p p' : World × Two) : Prop :=
  (TwoJ w0 K Y q n pv sv p → TwoJ w0 K Y q n pv sv p') ∧ (∀ g, p.2.a = some g → p'.2.a = some g) ∧ (∀ g, p.2.b = some g → p'.2.b = some g) ∧ (p.2.s = true → p'.2.s = true) ∧ (p.2.t = true → p'.2.t = true)
theorem TwoR.refl (p : World × Two) : TwoR w0 K Y q n pv sv p p := ⟨id, fun _ h => h, fun _ h => h, id, id⟩
theorem TwoR.trans (a b c : World × Two) (h : TwoR w0 K Y q n pv sv a b) (k : TwoR w0 K Y q n pv sv b c) : TwoR w0 K Y q n pv sv a c :=
  ⟨fun x => k.1 (h.1 x), fun g x => k.2.1 g (h.2.1 g x), fun g x => k.2.2.1 g (h.2.2.1 g x), fun x => k.2.2.2.1 (h.2.2.2.1 x), fun x => k.2.2.2.2 (h.2.2.2.2 x)⟩
theorem TwoJ.bq (h : TwoJ w0 K Y q n pv sv p) : Box p.1 q 69 #[.int .i64 (n : Nat), pv, slOf n p.2.a p.2.s, slOf n p.2.b p.2.t, sv] := (St.holds h (.box q 69 _) (by simp [Two.F])).2
theorem TwoJ.y (h : TwoJ w0 K Y q n pv sv p) {g : Nat} {t : TypeId} {cs : Array Value} (hy : Fact.box g t cs ∈ Y) : Box p.1 g t cs := (St.holds h (.box g t cs) (by simp [hy])).2
theorem TwoJ.mkA {w' : World} {g : Nat} (h : TwoJ w0 K Y q n pv sv p) (ha : p.2.a = none ∧ p.2.s = false) (hb : Below p.1.heap.size p.1 w') (ho : w'.ownsRow p.1.heap.size 31 1 (.slice (some ⟨g, 0, none⟩) n n) n (List.replicate n (.slice none 0 0))) :
    TwoJ w0 K Y q n pv sv (w', { p.2 with a := some g }) := by
  obtain ⟨w, a, b, s, t⟩ := p
  obtain ⟨rfl, rfl⟩ := ha
  have h1 := St.new h hb (.own (.slice (some ⟨g, 0, none⟩) n n) 31 1 n (List.replicate n (.slice none 0 0))) ho
  refine h1.perm ?_
  simp only [Two.F, rowOf, slOf, List.nil_append, List.cons_append]
  exact List.Perm.swap ..
theorem TwoJ.mkB {w' : World} {g : Nat} (h : TwoJ w0 K Y q n pv sv p) (ha : p.2.b = none ∧ p.2.t = false) (hb : Below p.1.heap.size p.1 w') (ho : w'.ownsRow p.1.heap.size 31 1 (.slice (some ⟨g, 0, none⟩) n n) n (List.replicate n (.slice none 0 0))) :
    TwoJ w0 K Y q n pv sv (w', { p.2 with b := some g }) := by
  obtain ⟨w, a, b, s, t⟩ := p
  obtain ⟨rfl, rfl⟩ := ha
  have h1 := St.new h hb (.own (.slice (some ⟨g, 0, none⟩) n n) 31 1 n (List.replicate n (.slice none 0 0))) ho
  refine h1.perm ?_
  cases a with
  | none => simp only [Two.F, rowOf, slOf, List.nil_append, List.cons_append]; exact List.Perm.swap ..
  | some g' =>
    simp only [Two.F, rowOf, slOf, List.nil_append, List.cons_append]
    exact ((List.Perm.swap ..).cons _).trans (List.Perm.swap ..)
theorem TwoJ.stA {w' : World} {g : Nat} (h : TwoJ w0 K Y q n pv sv p) (ha : p.2.a = some g) (hX : Box w' q 69 #[.int .i64 (n : Nat), pv, .slice (some ⟨g, 0, none⟩) n n, slOf n p.2.b p.2.t, sv]) (hU : Upd q p.1 w') : TwoJ w0 K Y q n pv sv (w', { p.2 with s := true }) := by
  obtain ⟨w, a, b, s, t⟩ := p
  dsimp only at ha
  subst ha
  have h0 : St w0 w (.box q 69 #[.int .i64 (n : Nat), pv, slOf n (some g) s, slOf n b t, sv] :: ((rowOf n (some g) ++ rowOf n b) ++ Y)) K := h
  exact h0.upd 0 rfl (.box q 69 #[.int .i64 (n : Nat), pv, .slice (some ⟨g, 0, none⟩) n n, slOf n b t, sv]) (upd_gb hU) ⟨(h0.holds _ (.head _)).1, hX⟩ fun _ e => .inl e
theorem TwoJ.stB {w' : World} {g : Nat} (h : TwoJ w0 K Y q n pv sv p) (ha : p.2.b = some g) (hX : Box w' q 69 #[.int .i64 (n : Nat), pv, slOf n p.2.a p.2.s, .slice (some ⟨g, 0, none⟩) n n, sv]) (hU : Upd q p.1 w') : TwoJ w0 K Y q n pv sv (w', { p.2 with t := true }) := by
  obtain ⟨w, a, b, s, t⟩ := p
  dsimp only at ha
  subst ha
  have h0 : St w0 w (.box q 69 #[.int .i64 (n : Nat), pv, slOf n a s, slOf n (some g) t, sv] :: ((rowOf n a ++ rowOf n (some g)) ++ Y)) K := h
  exact h0.upd 0 rfl (.box q 69 #[.int .i64 (n : Nat), pv, slOf n a s, .slice (some ⟨g, 0, none⟩) n n, sv]) (upd_gb hU) ⟨(h0.holds _ (.head _)).1, hX⟩ fun _ e => .inl e
end
def relF (q n : Nat) (pv sv av bv : Value) (g1 g2 : Nat) (S : List Nat) (ds xa xb : List Value) (X : List Fact) : List Fact :=
  [.own (.slice (some ⟨g2, 0, none⟩) n n) 22 1 n ds, .box q 69 #[.int .i64 (n : Nat), pv, av, bv, sv], .own av 31 1 n xa, .own bv 31 1 n xb, .box g1 51 #[.pointer (some ⟨q, 0, none⟩)], .own sv 3 1 S.length (ints (natInts S))] ++ X
theorem zip_one (T : Array Value) (p : Tmp) (v : Value) : (Array.zip #[p] #[v]).foldl (fun t (x : Tmp × Value) => match x with | (p, v) => t.setIfInBounds p v) T = T.setIfInBounds p v := by
  have h : Array.zip #[p] #[v] = #[(p, v)] := by
    apply Array.ext
    · simp
    · intro i h1 h2
      simp at h2
      subst h2
      simp
  rw [h]; simp
theorem perm_mark (A B C M : List Fact) (o : Fact) : ((A ++ (B ++ (C ++ M))) ++ [o]).Perm (A ++ (B ++ (C ++ (o :: M)))) := by
  simp only [List.append_assoc]
  exact (List.Perm.refl A).append ((List.Perm.refl B).append ((List.Perm.refl C).append (List.perm_append_singleton o M)))
theorem mem_memL {ws : List Nat} (hw : Words ws) {k : Nat} : ((k : Nat) : Int) ∈ memL ws ↔ (val ws).testBit k = true := by
  have h1 : ((k : Nat) : Int) ∈ memL ws ↔ k ∈ memTo (val ws) (64 * ws.length) := by
    simp only [memL, natInts, List.mem_map]
    exact ⟨fun ⟨a, ha, e⟩ => by have : a = k := by omega
                                exact this ▸ ha, fun h => ⟨k, h, rfl⟩⟩
  rw [h1, memTo, List.mem_filter]
  refine ⟨fun h => h.2, fun h => ⟨List.mem_range.2 ?_, h⟩⟩
  rw [testBit_val hw] at h
  rcases Nat.lt_or_ge (k / 64) ws.length with h2 | h2
  · omega
  · rw [List.getD_eq_getElem?_getD, List.getElem?_eq_none h2] at h; simp at h
theorem memL_nat {ws : List Nat} {x : Int} (h : x ∈ memL ws) : ∃ k : Nat, x = (k : Int) := by
  simp only [memL, natInts, List.mem_map] at h
  obtain ⟨a, _, e⟩ := h
  exact ⟨a, e.symm⟩
theorem St.dom {w0 w : World} {F : List Fact} {K : (Nat → Prop) → World → Prop} (h : St w0 w F K) : ∃ DD : Nat → Prop, DD = Free F ∧ K DD w := ⟨_, rfl, h.ro⟩
theorem wpIn_act {F : Fence} {n : Nat} {P : Program} {c : Code} {Q : Exit → Act → World → Prop} {a : Act} {w : World} (h : ∀ act, act = a → c.wpIn F n P Q act w) : c.wpIn F n P Q a w := h a rfl
def relK (K : (Nat → Prop) → World → Prop) (n : Nat) (L : List (Nat × Nat)) (S : List Nat) (i : Nat) (xa xb : List Value) (D : Nat → Prop) (w : World) : Prop :=
  K D w ∧ SetsX xa n (fun k => if k ∈ S.take i then aboveM n L k else 0) D w ∧ SetsX xb n (blP n L (S.take i)) D w
theorem stable_relK {K : (Nat → Prop) → World → Prop} (hK : Stable K) (n : Nat) (L : List (Nat × Nat)) (S : List Nat) (i : Nat) (xa xb : List Value) : Stable (relK K n L S i xa xb) := hK.and (stable_setsX.and stable_setsX)
structure RelI (w0 : World) (K : (Nat → Prop) → World → Prop) (F0 : List Fact) (q n : Nat) (pv sv av bv : Value) (g1 g2 : Nat) (L : List (Nat × Nat)) (S : List Nat) (dv : Nat → Value) (m : Nat) (a : Act) (w : World) (i : Nat) (ds : List Nat) (xa xb : List Value) : Prop where
  im : i + m = n
  size : a.tmps.size = 121
  s1 : a.tmps.getD 1 undef = .pointer (some ⟨g1, 0, none⟩)
  s2 : a.tmps.getD 2 undef = .slice (some ⟨g2, 0, none⟩) n n
  s57 : a.tmps.getD 57 undef = sv
  s58 : a.tmps.getD 58 undef = .int .i64 (S.length : Nat)
  s59 : a.tmps.getD 59 undef = .int .i64 (i : Nat)
  df : a.defers = marksD ds
  xal : xa.length = n
  xbl : xb.length = n
  st : St w0 w (relF q n pv sv av bv g1 g2 S ((List.range n).map dv) xa xb (famF dv (dirs L) n ++ (F0 ++ marksF ds))) (relK K n L S i xa xb)
set_option maxHeartbeats 1000000 in
theorem orelate_any {w0 w : World} {F0 : List Fact} {K : (Nat → Prop) → World → Prop} (q n : Nat) (L : List (Nat × Nat)) (S : List Nat) (pv sv : Value) (hn : n ≤ 256) (hL : Inr n L) (hl : L.length ≤ 1000000) (hT : Topo L S) (hSn : S.length = n) (hSb : ∀ y ∈ S, y < n)
    (hS : St w0 w (.own sv 3 1 S.length (ints (natInts S)) :: .box q 69 #[.int .i64 (n : Nat), pv, .slice none 0 0, .slice none 0 0, sv] :: F0) K)
    (kp : ∀ D w, K D w → Sl w D 2 pv L.length (pcells L)) (kt : ∀ D w, K D w → DTab w ∧ D 0) :
    Calls Tryd.prog 32 #[.pointer (some ⟨q, 0, none⟩)] w fun e w' => ∃ (av bv : Value) (xa xb : List Value), e = .returned (.tuple #[]) ∧
      St w0 w' (.box q 69 #[.int .i64 (n : Nat), pv, av, bv, sv] :: F0) fun D w => K D w ∧ (Sl w D 1 av n xa ∧ SetsX xa n (aboveM n L) D w) ∧ (Sl w D 1 bv n xb ∧ SetsX xb n (belowM n L) D w) := by
  obtain ⟨A, c, rfl, _, _⟩ := (kp _ _ hS.ro).shape
  have HL := Lib.hid hL
  have KS := hS.stable
  have HT := Lib.hid hT
  have HSB := Lib.hid hSb
  have hSn1 : S.length ≤ n := Nat.le_of_eq hSn
  have hSn2 : n ≤ S.length := Nat.le_of_eq hSn.symm
  obtain ⟨As, cs, rfl, _, _⟩ := own_shp (hS.own 0 rfl)
  obtain ⟨sv, hsv⟩ : ∃ sv : Value, sv = .slice As S.length cs := ⟨_, rfl⟩
  rw [← hsv] at hS ⊢
  clear hL hT hSb hSn
  refine (callsIn_wide (n := 6)).1 (callsIn_of_wp_marks Tryd.func32 rfl trivial ?_ rfl)
  simp only [Tryd.ntmps32, List.size_toArray, List.length_cons, List.length_nil, Nat.reduceAdd, Nat.reduceSub, Array.replicate_succ, Array.replicate_zero, List.push_toArray, List.append_toArray, List.nil_append, List.cons_append]
  refine wpIn_wide.2 ?_
  go_wp2_with (first
    | ((with_reducible show wpList _ _ _ (⟨some 1, _, _, _, _, _⟩ :: _) _ _); refine st_box hS rfl _ _ rfl (.pointer (some ⟨q, 0, none⟩)) _ rfl rfl ?_; clear hS; intro g1 w_ hS; (try simp only [Act.put, Act.eval, List.set_cons_zero, List.set_cons_succ, List.setIfInBounds_toArray, Array.getD_eq_getD_getElem?, List.getElem?_toArray, List.getElem?_cons_succ, List.getElem?_cons_zero, Option.getD_some, Value.cells] at hS)))
  obtain ⟨Y, hY⟩ : ∃ Y : List Fact, Y = .box g1 51 #[.pointer (some ⟨q, 0, none⟩)] :: .own sv 3 1 S.length (ints (natInts S)) :: F0 := ⟨_, rfl⟩
  have hJ0 : TwoJ w0 K Y q n (.slice A L.length c) sv (w_.drew, ⟨none, none, false, false⟩) := by
    rw [hY]
    refine hS.drew.perm ?_
    simp only [Two.F, rowOf, slOf, List.nil_append, List.cons_append]
    exact (List.Perm.swap ..).trans ((List.Perm.swap ..).cons _)
  have HY1 := Lib.hid (show Fact.box g1 51 #[.pointer (some ⟨q, 0, none⟩)] ∈ Y by rw [hY]; simp)
  have HY := Lib.hid hY
  clear hY hS
  have hRr := @TwoR.refl w0 K Y q n (.slice A L.length c) sv
  have hRt := @TwoR.trans w0 K Y q n (.slice A L.length c) sv
  refine wp_region_ghost (fun i__ v w => match i__ with
    | 0 => v = .pointer (some ⟨q, 0, none⟩)
    | 1 => v = .pointer (some ⟨q, 0, none⟩)
    | 2 => v = .pointer (some ⟨q, 0, none⟩)
    | 3 => v = .pointer (some ⟨q, 0, none⟩)
    | 4 => v = .pointer (some ⟨q, 0, none⟩)
    | 5 => v = .int .i64 (n : Nat)
    | 6 => ∃ g, w.2.a = some g ∧ v = .slice (some ⟨g, 0, none⟩) n n
    | 7 => v = .pointer (some ⟨q, 0, none⟩)
    | 8 => v = .pointer (some ⟨q, 0, none⟩)
    | 9 => v = .pointer (some ⟨q, 0, none⟩)
    | 10 => v = .int .i64 (n : Nat)
    | 11 => ∃ g, w.2.b = some g ∧ v = .slice (some ⟨g, 0, none⟩) n n
    | 12 => v = .pointer (some ⟨q, 0, none⟩)
    | 13 => v = .pointer (some ⟨q, 2, none⟩)
    | 14 => w.2.s = true
    | 15 => v = .pointer (some ⟨q, 0, none⟩)
    | 16 => v = .pointer (some ⟨q, 3, none⟩)
    | 17 => w.2.t = true
    | _ => True) (TwoR w0 K Y q n (.slice A L.length c) sv) (fun i p => match i with | 6 => p.2.a = none ∧ p.2.s = false | 11 => p.2.b = none ∧ p.2.t = false | _ => True) (⟨none, none, false, false⟩) (by kernel_rfl) (by kernel_rfl) hRr hRt ?mono ?hN ⟨?r0, ?r1, ?r2, ?r3, ?r4, ?r5, ?r6, ?r7, ?r8, ?r9, ?r10, ?r11, ?r12, ?r13, ?r14, ?r15, ?r16, ?r17, trivial⟩ ?post
  case hN => first | assumption | (intro i; (try dsimp only); split <;> first | trivial | assumption | (left; assumption))
  case mono =>
    intro i v w w' h hb
    match i, h with
    | 0, h => exact h
    | 1, h => exact h
    | 2, h => exact h
    | 3, h => exact h
    | 4, h => exact h
    | 5, h => exact h
    | 6, h => exact ⟨_, hb.2.1 _ h.choose_spec.1, h.choose_spec.2⟩
    | 7, h => exact h
    | 8, h => exact h
    | 9, h => exact h
    | 10, h => exact h
    | 11, h => exact ⟨_, hb.2.2.1 _ h.choose_spec.1, h.choose_spec.2⟩
    | 12, h => exact h
    | 13, h => exact h
    | 14, h => exact hb.2.2.2.1 h
    | 15, h => exact h
    | 16, h => exact h
    | 17, h => exact hb.2.2.2.2 h
    | _ + 18, h => trivial
  case r0 =>
    refine truleGh fun b__ w hW hN hold hpre => ⟨fun hwant K hK => ?_, fun hwant => ?_⟩
    · clear hwant
      have e1 : b__.eval (.tmp 1) = .pointer (some ⟨g1, 0, none⟩) := (hold 1 (by kernel_rfl)).trans rfl
      exact opw_cell rfl e1 (by kernel_rfl) (((hW.1 hJ0).y HY1.out).cell 0) (hK _ _ rfl ⟨hRr _, fun _ _ h => h⟩)
    · rw [want_none rfl] at hwant; cases hwant
  case r1 =>
    refine truleGh fun b__ w hW hN hold hpre => ⟨fun hwant K hK => ?_, fun hwant => ?_⟩
    · clear hwant
      have e1 : b__.eval (.tmp 1) = .pointer (some ⟨g1, 0, none⟩) := (hold 1 (by kernel_rfl)).trans rfl
      exact opw_cell rfl e1 (by kernel_rfl) (((hW.1 hJ0).y HY1.out).cell 0) (hK _ _ rfl ⟨hRr _, fun _ _ h => h⟩)
    · rw [want_none rfl] at hwant; cases hwant
  case r2 =>
    refine truleGh fun b__ w hW hN hold hpre => ⟨fun hwant K hK => ?_, fun hwant => ?_⟩
    · clear hwant
      have e1 : b__.eval (.tmp 1) = .pointer (some ⟨g1, 0, none⟩) := (hold 1 (by kernel_rfl)).trans rfl
      exact opw_cell rfl e1 (by kernel_rfl) (((hW.1 hJ0).y HY1.out).cell 0) (hK _ _ rfl ⟨hRr _, fun _ _ h => h⟩)
    · rw [want_none rfl] at hwant; cases hwant
  case r3 =>
    refine truleGh fun b__ w hW hN hold hpre => ⟨fun hwant K hK => ?_, fun hwant => ?_⟩
    · clear hwant
      have e12 : b__.eval (.tmp 12) = .pointer (some ⟨q, 0, none⟩) := hpre ⟨2, _⟩ (Array.mem_of_getElem? (i := 0) rfl) rfl _ _ rfl rfl
      exact opw_nil rfl e12 (hK _ _ rfl ⟨hRr _, fun _ _ h => h⟩)
    · rw [want_none rfl] at hwant; cases hwant
  case r4 =>
    refine truleGh fun b__ w hW hN hold hpre => ⟨fun hwant K hK => ?_, fun hwant => ?_⟩
    · clear hwant
      have e13 : b__.eval (.tmp 13) = .pointer (some ⟨q, 0, none⟩) := hpre ⟨3, _⟩ (Array.mem_of_getElem? (i := 0) rfl) rfl _ _ rfl rfl
      exact opw_faddr rfl e13 (by kernel_rfl) (hK _ _ rfl ⟨hRr _, fun _ _ h => h⟩)
    · rw [want_none rfl] at hwant; cases hwant
  case r5 =>
    refine truleGh fun b__ w hW hN hold hpre => ⟨fun hwant K hK => ?_, fun hwant => ?_⟩
    · clear hwant
      have e14 : b__.eval (.tmp 14) = .pointer (some ⟨q, 0, none⟩) := hpre ⟨4, _⟩ (Array.mem_of_getElem? (i := 0) rfl) rfl _ _ rfl rfl
      exact opw_cell rfl e14 (by kernel_rfl) ((hW.1 hJ0).bq.cell 0) (hK _ _ rfl ⟨hRr _, fun _ _ h => h⟩)
    · rw [want_none rfl] at hwant; cases hwant
  case r6 =>
    refine truleGh fun b__ w hW hN hold hpre => ⟨fun hwant K hK => ?_, fun hwant => ?_⟩
    · clear hwant
      have e15 : b__.eval (.tmp 15) = .int .i64 (n : Nat) := hpre ⟨5, _⟩ (Array.mem_of_getElem? (i := 0) rfl) rfl _ _ rfl rfl
      exact opw_mk _ _ _ rfl ty_sets .i64 .i64 n #[.slice none 0 0] e15 e15 (by kernel_rfl) (by omega) (by omega) fun w' ho hb => hK _ (w', { w.2 with a := some w.1.heap.size }) ⟨_, rfl, rfl⟩ ⟨⟨fun hj => hj.mkA hN hb (by rw [← mk_nils]; exact ho), (fun g h => by rw [hN.1] at h; cases h), (fun _ h => h), id, id⟩, fun j hj hn => by split <;> first | exact absurd rfl hj | exact hn | trivial⟩
    · rw [want_none rfl] at hwant; cases hwant
  case r7 =>
    refine truleGh fun b__ w hW hN hold hpre => ⟨fun hwant K hK => ?_, fun hwant => ?_⟩
    · clear hwant
      have e1 : b__.eval (.tmp 1) = .pointer (some ⟨g1, 0, none⟩) := (hold 1 (by kernel_rfl)).trans rfl
      exact opw_cell rfl e1 (by kernel_rfl) (((hW.1 hJ0).y HY1.out).cell 0) (hK _ _ rfl ⟨hRr _, fun _ _ h => h⟩)
    · rw [want_none rfl] at hwant; cases hwant
  case r8 =>
    refine truleGh fun b__ w hW hN hold hpre => ⟨fun hwant K hK => ?_, fun hwant => ?_⟩
    · clear hwant
      have e17 : b__.eval (.tmp 17) = .pointer (some ⟨q, 0, none⟩) := hpre ⟨7, _⟩ (Array.mem_of_getElem? (i := 0) rfl) rfl _ _ rfl rfl
      exact opw_nil rfl e17 (hK _ _ rfl ⟨hRr _, fun _ _ h => h⟩)
    · rw [want_none rfl] at hwant; cases hwant
  case r9 =>
    refine truleGh fun b__ w hW hN hold hpre => ⟨fun hwant K hK => ?_, fun hwant => ?_⟩
    · clear hwant
      have e18 : b__.eval (.tmp 18) = .pointer (some ⟨q, 0, none⟩) := hpre ⟨8, _⟩ (Array.mem_of_getElem? (i := 0) rfl) rfl _ _ rfl rfl
      exact opw_faddr rfl e18 (by kernel_rfl) (hK _ _ rfl ⟨hRr _, fun _ _ h => h⟩)
    · rw [want_none rfl] at hwant; cases hwant
  case r10 =>
    refine truleGh fun b__ w hW hN hold hpre => ⟨fun hwant K hK => ?_, fun hwant => ?_⟩
    · clear hwant
      have e19 : b__.eval (.tmp 19) = .pointer (some ⟨q, 0, none⟩) := hpre ⟨9, _⟩ (Array.mem_of_getElem? (i := 0) rfl) rfl _ _ rfl rfl
      exact opw_cell rfl e19 (by kernel_rfl) ((hW.1 hJ0).bq.cell 0) (hK _ _ rfl ⟨hRr _, fun _ _ h => h⟩)
    · rw [want_none rfl] at hwant; cases hwant
  case r11 =>
    refine truleGh fun b__ w hW hN hold hpre => ⟨fun hwant K hK => ?_, fun hwant => ?_⟩
    · clear hwant
      have e20 : b__.eval (.tmp 20) = .int .i64 (n : Nat) := hpre ⟨10, _⟩ (Array.mem_of_getElem? (i := 0) rfl) rfl _ _ rfl rfl
      exact opw_mk _ _ _ rfl ty_sets .i64 .i64 n #[.slice none 0 0] e20 e20 (by kernel_rfl) (by omega) (by omega) fun w' ho hb => hK _ (w', { w.2 with b := some w.1.heap.size }) ⟨_, rfl, rfl⟩ ⟨⟨fun hj => hj.mkB hN hb (by rw [← mk_nils]; exact ho), (fun _ h => h), (fun g h => by rw [hN.1] at h; cases h), id, id⟩, fun j hj hn => by split <;> first | exact absurd rfl hj | exact hn | trivial⟩
    · rw [want_none rfl] at hwant; cases hwant
  case r12 =>
    refine truleGh fun b__ w hW hN hold hpre => ⟨fun hwant K hK => ?_, fun hwant => ?_⟩
    · clear hwant
      have e10 : b__.eval (.tmp 10) = .pointer (some ⟨q, 0, none⟩) := hpre ⟨0, _⟩ (Array.mem_of_getElem? (i := 0) rfl) rfl _ _ rfl rfl
      exact opw_nil rfl e10 (hK _ _ rfl ⟨hRr _, fun _ _ h => h⟩)
    · rw [want_none rfl] at hwant; cases hwant
  case r13 =>
    refine truleGh fun b__ w hW hN hold hpre => ⟨fun hwant K hK => ?_, fun hwant => ?_⟩
    · clear hwant
      have e22 : b__.eval (.tmp 22) = .pointer (some ⟨q, 0, none⟩) := hpre ⟨12, _⟩ (Array.mem_of_getElem? (i := 0) rfl) rfl _ _ rfl rfl
      exact opw_faddr rfl e22 (by kernel_rfl) (hK _ _ rfl ⟨hRr _, fun _ _ h => h⟩)
    · rw [want_none rfl] at hwant; cases hwant
  case r14 =>
    refine truleGh fun b__ w hW hN hold hpre => ⟨fun hwant K hK => ?_, fun hwant => ?_⟩
    · clear hwant
      have e23 : b__.eval (.tmp 23) = .pointer (some ⟨q, 2, none⟩) := hpre ⟨13, _⟩ (Array.mem_of_getElem? (i := 0) rfl) rfl _ _ rfl rfl
      have e16 : (fun (v : Value) (w : World × _) => ∃ g, w.2.a = some g ∧ v = .slice (some ⟨g, 0, none⟩) n n) (b__.eval (.tmp 16)) w := hpre ⟨6, _⟩ (Array.mem_of_getElem? (i := 1) rfl) rfl _ _ rfl rfl
      obtain ⟨ga, ha, ev⟩ := e16
      exact opw_cstore rfl e23 ev (hW.1 hJ0).bq (by simp) rfl rfl (by kernel_rfl) fun w' hX hU => hK undef (w', { w.2 with s := true }) rfl ⟨⟨fun hj => hj.stA ha hX hU, (fun _ h => h), (fun _ h => h), (fun _ => rfl), id⟩, fun j hj hn => by split <;> first | (exfalso; rw [hn.1] at ha; cases ha) | exact hn | trivial⟩
    · rw [want_none rfl] at hwant; cases hwant
  case r15 =>
    refine truleGh fun b__ w hW hN hold hpre => ⟨fun hwant K hK => ?_, fun hwant => ?_⟩
    · clear hwant
      have e11 : b__.eval (.tmp 11) = .pointer (some ⟨q, 0, none⟩) := hpre ⟨1, _⟩ (Array.mem_of_getElem? (i := 0) rfl) rfl _ _ rfl rfl
      exact opw_nil rfl e11 (hK _ _ rfl ⟨hRr _, fun _ _ h => h⟩)
    · rw [want_none rfl] at hwant; cases hwant
  case r16 =>
    refine truleGh fun b__ w hW hN hold hpre => ⟨fun hwant K hK => ?_, fun hwant => ?_⟩
    · clear hwant
      have e24 : b__.eval (.tmp 24) = .pointer (some ⟨q, 0, none⟩) := hpre ⟨15, _⟩ (Array.mem_of_getElem? (i := 0) rfl) rfl _ _ rfl rfl
      exact opw_faddr rfl e24 (by kernel_rfl) (hK _ _ rfl ⟨hRr _, fun _ _ h => h⟩)
    · rw [want_none rfl] at hwant; cases hwant
  case r17 =>
    refine truleGh fun b__ w hW hN hold hpre => ⟨fun hwant K hK => ?_, fun hwant => ?_⟩
    · clear hwant
      have e25 : b__.eval (.tmp 25) = .pointer (some ⟨q, 3, none⟩) := hpre ⟨16, _⟩ (Array.mem_of_getElem? (i := 0) rfl) rfl _ _ rfl rfl
      have e21 : (fun (v : Value) (w : World × _) => ∃ g, w.2.b = some g ∧ v = .slice (some ⟨g, 0, none⟩) n n) (b__.eval (.tmp 21)) w := hpre ⟨11, _⟩ (Array.mem_of_getElem? (i := 1) rfl) rfl _ _ rfl rfl
      obtain ⟨ga, ha, ev⟩ := e21
      exact opw_cstore rfl e25 ev (hW.1 hJ0).bq (by simp) rfl rfl (by kernel_rfl) fun w' hX hU => hK undef (w', { w.2 with t := true }) rfl ⟨⟨fun hj => hj.stB ha hX hU, (fun _ h => h), (fun _ h => h), id, (fun _ => rfl)⟩, fun j hj hn => by split <;> first | (exfalso; rw [hn.1] at ha; cases ha) | exact hn | trivial⟩
    · rw [want_none rfl] at hwant; cases hwant
  case post =>
    intro b__ wz hW hdf hsz hold hT hZ
    have e10 : b__.eval (.tmp 10) = .pointer (some ⟨q, 0, none⟩) := hT 0 _ 10 rfl rfl
    have e11 : b__.eval (.tmp 11) = .pointer (some ⟨q, 0, none⟩) := hT 1 _ 11 rfl rfl
    have e12 : b__.eval (.tmp 12) = .pointer (some ⟨q, 0, none⟩) := hT 2 _ 12 rfl rfl
    have e13 : b__.eval (.tmp 13) = .pointer (some ⟨q, 0, none⟩) := hT 3 _ 13 rfl rfl
    have e14 : b__.eval (.tmp 14) = .pointer (some ⟨q, 0, none⟩) := hT 4 _ 14 rfl rfl
    have e15 : b__.eval (.tmp 15) = .int .i64 (n : Nat) := hT 5 _ 15 rfl rfl
    have e16 : (fun (v : Value) (w : World × _) => ∃ g, w.2.a = some g ∧ v = .slice (some ⟨g, 0, none⟩) n n) (b__.eval (.tmp 16)) wz := hT 6 _ 16 rfl rfl
    have e17 : b__.eval (.tmp 17) = .pointer (some ⟨q, 0, none⟩) := hT 7 _ 17 rfl rfl
    have e18 : b__.eval (.tmp 18) = .pointer (some ⟨q, 0, none⟩) := hT 8 _ 18 rfl rfl
    have e19 : b__.eval (.tmp 19) = .pointer (some ⟨q, 0, none⟩) := hT 9 _ 19 rfl rfl
    have e20 : b__.eval (.tmp 20) = .int .i64 (n : Nat) := hT 10 _ 20 rfl rfl
    have e21 : (fun (v : Value) (w : World × _) => ∃ g, w.2.b = some g ∧ v = .slice (some ⟨g, 0, none⟩) n n) (b__.eval (.tmp 21)) wz := hT 11 _ 21 rfl rfl
    have e22 : b__.eval (.tmp 22) = .pointer (some ⟨q, 0, none⟩) := hT 12 _ 22 rfl rfl
    have e23 : b__.eval (.tmp 23) = .pointer (some ⟨q, 2, none⟩) := hT 13 _ 23 rfl rfl
    have e24 : b__.eval (.tmp 24) = .pointer (some ⟨q, 0, none⟩) := hT 15 _ 24 rfl rfl
    have e25 : b__.eval (.tmp 25) = .pointer (some ⟨q, 3, none⟩) := hT 16 _ 25 rfl rfl
    obtain ⟨vs, hvs, hb⟩ := frame_of hdf hsz hold
    replace e10 : vs 10 = .pointer (some ⟨q, 0, none⟩) := (hvs 10).symm.trans e10
    replace e11 : vs 11 = .pointer (some ⟨q, 0, none⟩) := (hvs 11).symm.trans e11
    replace e12 : vs 12 = .pointer (some ⟨q, 0, none⟩) := (hvs 12).symm.trans e12
    replace e13 : vs 13 = .pointer (some ⟨q, 0, none⟩) := (hvs 13).symm.trans e13
    replace e14 : vs 14 = .pointer (some ⟨q, 0, none⟩) := (hvs 14).symm.trans e14
    replace e15 : vs 15 = .int .i64 (n : Nat) := (hvs 15).symm.trans e15
    replace e16 := (hvs 16) ▸ e16
    replace e17 : vs 17 = .pointer (some ⟨q, 0, none⟩) := (hvs 17).symm.trans e17
    replace e18 : vs 18 = .pointer (some ⟨q, 0, none⟩) := (hvs 18).symm.trans e18
    replace e19 : vs 19 = .pointer (some ⟨q, 0, none⟩) := (hvs 19).symm.trans e19
    replace e20 : vs 20 = .int .i64 (n : Nat) := (hvs 20).symm.trans e20
    replace e21 := (hvs 21) ▸ e21
    replace e22 : vs 22 = .pointer (some ⟨q, 0, none⟩) := (hvs 22).symm.trans e22
    replace e23 : vs 23 = .pointer (some ⟨q, 2, none⟩) := (hvs 23).symm.trans e23
    replace e24 : vs 24 = .pointer (some ⟨q, 0, none⟩) := (hvs 24).symm.trans e24
    replace e25 : vs 25 = .pointer (some ⟨q, 3, none⟩) := (hvs 25).symm.trans e25
    subst hb
    clear hvs hold hT hdf hsz
    simp only [setAll, Act.put, List.setIfInBounds_toArray, List.set_cons_zero, List.set_cons_succ, List.getElem_toArray, List.getElem_cons_succ, List.getElem_cons_zero]
    obtain ⟨g6, ha6, -⟩ := e16
    obtain ⟨g11, ha11, -⟩ := e21
    obtain ⟨_, hs14⟩ := hZ 14 _ rfl rfl
    obtain ⟨_, ht17⟩ := hZ 17 _ rfl rfl
    have hJ := hW.1 hJ0
    obtain ⟨W2, ⟨ta, tb, ts, tt⟩⟩ := wz
    dsimp only at ha6 ha11 hs14 ht17
    subst ha6 ha11 hs14 ht17
    have hS : St w0 W2 (.box q 69 #[.int .i64 (n : Nat), .slice A L.length c, .slice (some ⟨g6, 0, none⟩) n n, .slice (some ⟨g11, 0, none⟩) n n, sv] :: .own (.slice (some ⟨g6, 0, none⟩) n n) 31 1 n (List.replicate n (.slice none 0 0)) :: .own (.slice (some ⟨g11, 0, none⟩) n n) 31 1 n (List.replicate n (.slice none 0 0)) :: .box g1 51 #[.pointer (some ⟨q, 0, none⟩)] :: .own sv 3 1 S.length (ints (natInts S)) :: F0) K := by
      have h : St w0 W2 (Two.F q n (.slice A L.length c) sv ⟨some g6, some g11, true, true⟩ ++ Y) K := hJ
      rw [HY.out] at h; exact h
    clear hJ hJ0 HY HY1 hW hZ hRr hRt
    go_wp2_with (first
      | ((with_reducible show wpList _ _ _ (⟨_, .load _ _, _, _, _, _⟩ :: _) _ _); first | (refine st_cell hS 0 rfl _ _ rfl _ _ rfl _ _ rfl (by decide +kernel) _ (by first | assumption | rfl) ?_) | (refine st_cell hS 1 rfl _ _ rfl _ _ rfl _ _ rfl (by decide +kernel) _ (by first | assumption | rfl) ?_) | (refine st_cell hS 2 rfl _ _ rfl _ _ rfl _ _ rfl (by decide +kernel) _ (by first | assumption | rfl) ?_) | (refine st_cell hS 3 rfl _ _ rfl _ _ rfl _ _ rfl (by decide +kernel) _ (by first | assumption | rfl) ?_) | (refine st_cell hS 4 rfl _ _ rfl _ _ rfl _ _ rfl (by decide +kernel) _ (by first | assumption | rfl) ?_) | (refine st_cell hS 5 rfl _ _ rfl _ _ rfl _ _ rfl (by decide +kernel) _ (by first | assumption | rfl) ?_) | (refine st_cell hS 6 rfl _ _ rfl _ _ rfl _ _ rfl (by decide +kernel) _ (by first | assumption | rfl) ?_) | (refine st_cell hS 7 rfl _ _ rfl _ _ rfl _ _ rfl (by decide +kernel) _ (by first | assumption | rfl) ?_))
      | ((with_reducible show wpList _ _ _ (⟨_, .makeSlice _ _ _, _, _, _, _⟩ :: _) _ _); refine st_mk hS rfl _ _ _ rfl ty_rows .i64 .i64 n #[.slice none 0 0] rfl rfl (by kernel_rfl) (by omega) (by omega) ?_; clear hS; intro g2 w_ hS))
    rw [mk_nils] at hS
    have hS1 : St w0 w_ (relF q n (.slice A L.length c) sv (.slice (some ⟨g6, 0, none⟩) n n) (.slice (some ⟨g11, 0, none⟩) n n) g1 g2 S ((List.range n).map fun _ => .slice none 0 0) (List.replicate n (.slice none 0 0)) (List.replicate n (.slice none 0 0)) (famF (fun _ => .slice none 0 0) (dirs (L.take 0)) n ++ F0)) K := by
      have e : (List.range n).map (fun _ => Value.slice none 0 0) = List.replicate n (.slice none 0 0) := by apply List.ext_getElem <;> simp
      rw [e, dirs_take, fam_nil]
      refine (hS.nils 3 1 n).perm ?_
      exact List.perm_append_comm_assoc ..
    clear hS
    go_loopw [36] (fun i wr => ∃ (j : Nat) (dv : Nat → Value), j ≤ L.length ∧ i = .int .i64 j ∧ St w0 wr (relF q n (.slice A L.length c) sv (.slice (some ⟨g6, 0, none⟩) n n) (.slice (some ⟨g11, 0, none⟩) n n) g1 g2 S ((List.range n).map dv) (List.replicate n (.slice none 0 0)) (List.replicate n (.slice none 0 0)) (famF dv (dirs (L.take j)) n ++ F0)) K) (fun i _ => L.length - (intOf i).toNat)
    case atStart => exact ⟨0, _, by omega, rfl, hS1⟩
    case round =>
      clear hS1
      obtain ⟨j, dv, hj, rfl, hS⟩ := hrel
      by_cases hlj : j < L.length
      · obtain ⟨f1, f2⟩ := pcells_at L j hlj
        have HG := Lib.hid (getD_at (0, 0) hlj)
        have hm := HL.out (L.getD j (0, 0)) (by rw [List.getD_eq_getElem?_getD, List.getElem?_eq_getElem hlj]; exact List.getElem_mem hlj)
        generalize L.getD j (0, 0) = x at *
        obtain ⟨xa, xb⟩ := x
        dsimp only at f1 f2 hm
        obtain ⟨ha, hxb⟩ := hm
        have HC := Lib.hid (show dirs (L.take (j + 1)) = fun y => if y = xb then dirs (L.take j) xb ++ [xa] else dirs (L.take j) y from funext fun y => by
          rw [dirs_step HG.out]
          by_cases e : y = xb
          · subst e; simp
          · rw [if_neg e, if_neg (fun h => e h.symm)])
        go_wp2_with (first
          | ((with_reducible show wpList _ _ _ (⟨_, .binOp _ _ _ _ _, _, _, _, _⟩ :: _) _ _); (first | (refine st_lss rfl _ _ _ _ rfl _ _ _ rfl rfl (fun h_ => ?_) (fun h_ => ?_)) | (refine st_leq rfl _ _ _ _ rfl _ _ _ rfl rfl (fun h_ => ?_) (fun h_ => ?_)) | (refine st_gtr rfl _ _ _ _ rfl _ _ _ rfl rfl (fun h_ => ?_) (fun h_ => ?_)) | (refine st_geq rfl _ _ _ _ rfl _ _ _ rfl rfl (fun h_ => ?_) (fun h_ => ?_)) | (refine st_eql rfl _ _ _ _ rfl _ _ _ rfl rfl (fun h_ => ?_) (fun h_ => ?_)) | (refine st_neq rfl _ _ _ _ rfl _ _ _ rfl rfl (fun h_ => ?_) (fun h_ => ?_))) <;> go_prune)
          | ((with_reducible show wpList _ _ _ (⟨_, .indexAddr _ _ _, _, _, _, _⟩ :: _) _ _); refine st_iaddr2 hS rfl _ _ _ rfl _ rfl rfl (by assumption) Tryd.underlying62 (by kernel_rfl) (by first | assumption | omega) _ _ (by assumption) (by assumption) ?_; intro b_ j_ hc0_ hc1_)
          | ((with_reducible show wpList _ _ _ (⟨some 4, _, _, _, _, _⟩ :: _) _ _); refine st_alloc hS rfl _ rfl (by kernel_rfl) ?_; clear hS; intro g4 w_ hS; (try simp only [Act.put, Act.eval, List.set_cons_zero, List.set_cons_succ, List.setIfInBounds_toArray, Array.getD_eq_getD_getElem?, List.getElem?_toArray, List.getElem?_cons_succ, List.getElem?_cons_zero, Option.getD_some, Value.cells] at hS))
          | ((with_reducible show wpList _ _ _ (⟨_, .store _ _ _, _, _, _, _⟩ :: _) _ _); (first | (refine st_store hS 0 rfl _ _ _ rfl _ _ rfl rfl _ _ rfl (by kernel_rfl) (by kernel_rfl) (by kernel_rfl) ?_) | (refine st_store hS 1 rfl _ _ _ rfl _ _ rfl rfl _ _ rfl (by kernel_rfl) (by kernel_rfl) (by kernel_rfl) ?_) | (refine st_store hS 2 rfl _ _ _ rfl _ _ rfl rfl _ _ rfl (by kernel_rfl) (by kernel_rfl) (by kernel_rfl) ?_) | (refine st_store hS 3 rfl _ _ _ rfl _ _ rfl rfl _ _ rfl (by kernel_rfl) (by kernel_rfl) (by kernel_rfl) ?_) | (refine st_cstore hS 0 rfl _ _ _ rfl _ _ _ rfl rfl rfl (by first | (simp; done) | (simp; omega) | exact of_decide_eq_true (by kernel_rfl)) rfl (by first | rfl | assumption) (by kernel_rfl) ?_) | (refine st_cstore hS 1 rfl _ _ _ rfl _ _ _ rfl rfl rfl (by first | (simp; done) | (simp; omega) | exact of_decide_eq_true (by kernel_rfl)) rfl (by first | rfl | assumption) (by kernel_rfl) ?_) | (refine st_cstore hS 2 rfl _ _ _ rfl _ _ _ rfl rfl rfl (by first | (simp; done) | (simp; omega) | exact of_decide_eq_true (by kernel_rfl)) rfl (by first | rfl | assumption) (by kernel_rfl) ?_) | (refine st_cstore hS 3 rfl _ _ _ rfl _ _ _ rfl rfl rfl (by first | (simp; done) | (simp; omega) | exact of_decide_eq_true (by kernel_rfl)) rfl (by first | rfl | assumption) (by kernel_rfl) ?_)); clear hS; intro w_ hS; (try simp only [Act.put, Act.eval, List.set_cons_zero, List.set_cons_succ, List.setIfInBounds_toArray, Array.getD_eq_getD_getElem?, List.getElem?_toArray, List.getElem?_cons_succ, List.getElem?_cons_zero, Option.getD_some, Value.cells] at hS))
          | ((with_reducible show wpList _ _ _ (⟨_, .load _ _, _, _, _, _⟩ :: _) _ _); first | (refine st_cell hS 0 rfl _ _ rfl _ _ rfl _ _ rfl (by decide +kernel) _ (by first | assumption | rfl) ?_) | (refine st_cell hS 1 rfl _ _ rfl _ _ rfl _ _ rfl (by decide +kernel) _ (by first | assumption | rfl) ?_) | (refine st_cell hS 2 rfl _ _ rfl _ _ rfl _ _ rfl (by decide +kernel) _ (by first | assumption | rfl) ?_) | (refine st_cell hS 3 rfl _ _ rfl _ _ rfl _ _ rfl (by decide +kernel) _ (by first | assumption | rfl) ?_) | (refine st_cell hS 4 rfl _ _ rfl _ _ rfl _ _ rfl (by decide +kernel) _ (by first | assumption | rfl) ?_) | (refine st_cell hS 5 rfl _ _ rfl _ _ rfl _ _ rfl (by decide +kernel) _ (by first | assumption | rfl) ?_) | (refine st_cell hS 6 rfl _ _ rfl _ _ rfl _ _ rfl (by decide +kernel) _ (by first | assumption | rfl) ?_) | (refine st_cell hS 7 rfl _ _ rfl _ _ rfl _ _ rfl (by decide +kernel) _ (by first | assumption | rfl) ?_)))
        have hdl := dirs_le (L.take j) xb
        have hdt : (L.take j).length ≤ 1000000 := by rw [List.length_take]; omega
        replace hS := hS.drew
        refine wp_region_seq [10, 11, 13] (fun i__ v => match i__ with
          | 0 => v = .slice (some ⟨g2, 0, none⟩) n n
          | 1 => v = .pointer (some ⟨g4, 1, none⟩)
          | 2 => v = .int .i64 ((xb : Nat) : Int)
          | 3 => v = .slice (some ⟨g2, 0, none⟩) n n
          | 4 => v = .pointer (some ⟨g4, 1, none⟩)
          | 5 => v = .int .i64 ((xb : Nat) : Int)
          | 6 => v = .pointer (some ⟨g2, 0 + (xb) * 1, none⟩)
          | 7 => v = dv xb
          | 8 => v = .pointer (some ⟨g4, 0, none⟩)
          | 9 => v = .int .i64 ((xa : Nat) : Int)
          | 10 => True
          | 11 => True
          | 12 => v = .pointer (some ⟨g2, 0 + (xb) * 1, none⟩)
          | 13 => True
          | _ => True) (fun vs w => match vs with | [] => St w0 w (.box g4 63 #[.int .i64 ((xa : Nat) : Int), .int .i64 ((xb : Nat) : Int)] :: relF q n (.slice A L.length c) sv (.slice (some ⟨g6, 0, none⟩) n n) (.slice (some ⟨g11, 0, none⟩) n n) g1 g2 S ((List.range n).map dv) (List.replicate n (.slice none 0 0)) (List.replicate n (.slice none 0 0)) (famF dv (dirs (L.take j)) n ++ F0)) K | [v] => St w0 w (.box g4 63 #[.int .i64 ((xa : Nat) : Int), .int .i64 ((xb : Nat) : Int)] :: relF q n (.slice A L.length c) sv (.slice (some ⟨g6, 0, none⟩) n n) (.slice (some ⟨g11, 0, none⟩) n n) g1 g2 S ((List.range n).map dv) (List.replicate n (.slice none 0 0)) (List.replicate n (.slice none 0 0)) (famF dv (dirs (L.take j)) n ++ F0)) (fun D w => K D w ∧ Sl w D 1 v 1 [.int .i64 ((xa : Nat) : Int)]) | [_, u] => St w0 w (.box g4 63 #[.int .i64 ((xa : Nat) : Int), .int .i64 ((xb : Nat) : Int)] :: relF q n (.slice A L.length c) sv (.slice (some ⟨g6, 0, none⟩) n n) (.slice (some ⟨g11, 0, none⟩) n n) g1 g2 S ((List.range n).map dv) (List.replicate n (.slice none 0 0)) (List.replicate n (.slice none 0 0)) (famF (fun k => if k = xb then u else dv k) (dirs (L.take (j + 1))) n ++ F0)) K | [_, u, _] => St w0 w (.box g4 63 #[.int .i64 ((xa : Nat) : Int), .int .i64 ((xb : Nat) : Int)] :: relF q n (.slice A L.length c) sv (.slice (some ⟨g6, 0, none⟩) n n) (.slice (some ⟨g11, 0, none⟩) n n) g1 g2 S ((List.range n).map (fun k => if k = xb then u else dv k)) (List.replicate n (.slice none 0 0)) (List.replicate n (.slice none 0 0)) (famF (fun k => if k = xb then u else dv k) (dirs (L.take (j + 1))) n ++ F0)) K | _ => False) (by kernel_rfl) (by kernel_rfl) (by decide) (by kernel_rfl) (by kernel_rfl) ?start ⟨?r0, ?r1, ?r2, ?r3, ?r4, ?r5, ?r6, ?r7, ?r8, ?r9, ?r10, ?r11, ?r12, ?r13, trivial⟩ ?post
        case start => first | assumption | (dsimp only; assumption)
        case r0 =>
          refine qread rfl fun b__ w vs hS hcov hold hpre heff => ?_
          refine ⟨fun hwant K hK => ?_, fun hwant => ?_⟩
          · clear hwant
            have e2 : b__.eval (.tmp 2) = .slice (some ⟨g2, 0, none⟩) n n := (hold 2 (by kernel_rfl)).trans rfl
            exact opw_move rfl e2 (hK _ rfl)
          · rw [want_none rfl] at hwant; cases hwant
        case r1 =>
          refine qread rfl fun b__ w vs hS hcov hold hpre heff => ?_
          have hl1 : vs.length ≤ 2 := hcov 2 13 _ rfl rfl (by kernel_rfl)
          refine ⟨fun hwant K hK => ?_, fun hwant => ?_⟩
          · clear hwant
            have hl0 : 0 ≤ vs.length ∧ vs.length ≤ 2 := ⟨by omega, by omega⟩
            rcases (by omega : vs.length = 0 ∨ vs.length = 1 ∨ vs.length = 2) with hl | hl | hl
            · obtain rfl := vs_len0 hl
              have e4 : b__.eval (.tmp 4) = .pointer (some ⟨g4, 0, none⟩) := (hold 4 (by kernel_rfl)).trans rfl
              exact opw_iaddr rfl e4 rfl (by kernel_rfl) (hK _ rfl)
            · obtain ⟨x0, rfl⟩ := vs_len1 hl
              have e4 : b__.eval (.tmp 4) = .pointer (some ⟨g4, 0, none⟩) := (hold 4 (by kernel_rfl)).trans rfl
              exact opw_iaddr rfl e4 rfl (by kernel_rfl) (hK _ rfl)
            · obtain ⟨x0, x1, rfl⟩ := vs_len2 hl
              have e4 : b__.eval (.tmp 4) = .pointer (some ⟨g4, 0, none⟩) := (hold 4 (by kernel_rfl)).trans rfl
              exact opw_iaddr rfl e4 rfl (by kernel_rfl) (hK _ rfl)
          · rw [want_none rfl] at hwant; cases hwant
        case r2 =>
          refine qread rfl fun b__ w vs hS hcov hold hpre heff => ?_
          have hl1 : vs.length ≤ 2 := hcov 2 13 _ rfl rfl (by kernel_rfl)
          refine ⟨fun hwant K hK => ?_, fun hwant => ?_⟩
          · clear hwant
            have hl0 : 0 ≤ vs.length ∧ vs.length ≤ 2 := ⟨by omega, by omega⟩
            rcases (by omega : vs.length = 0 ∨ vs.length = 1 ∨ vs.length = 2) with hl | hl | hl
            · obtain rfl := vs_len0 hl
              have e41 : b__.eval (.tmp 41) = .pointer (some ⟨g4, 1, none⟩) := hpre ⟨1, _⟩ (Array.mem_of_getElem? (i := 0) rfl) rfl _ _ rfl rfl rfl
              exact opw_cell rfl e41 (by kernel_rfl) ((St.box hS 0 rfl).cell 1) (hK _ rfl)
            · obtain ⟨x0, rfl⟩ := vs_len1 hl
              have e41 : b__.eval (.tmp 41) = .pointer (some ⟨g4, 1, none⟩) := hpre ⟨1, _⟩ (Array.mem_of_getElem? (i := 0) rfl) rfl _ _ rfl rfl rfl
              exact opw_cell rfl e41 (by kernel_rfl) ((St.box hS 0 rfl).cell 1) (hK _ rfl)
            · obtain ⟨x0, x1, rfl⟩ := vs_len2 hl
              have e41 : b__.eval (.tmp 41) = .pointer (some ⟨g4, 1, none⟩) := hpre ⟨1, _⟩ (Array.mem_of_getElem? (i := 0) rfl) rfl _ _ rfl rfl rfl
              exact opw_cell rfl e41 (by kernel_rfl) ((St.box hS 0 rfl).cell 1) (hK _ rfl)
          · rw [want_none rfl] at hwant; cases hwant
        case r3 =>
          refine qread rfl fun b__ w vs hS hcov hold hpre heff => ?_
          refine ⟨fun hwant K hK => ?_, fun hwant => ?_⟩
          · clear hwant
            have e2 : b__.eval (.tmp 2) = .slice (some ⟨g2, 0, none⟩) n n := (hold 2 (by kernel_rfl)).trans rfl
            exact opw_move rfl e2 (hK _ rfl)
          · rw [want_none rfl] at hwant; cases hwant
        case r4 =>
          refine qread rfl fun b__ w vs hS hcov hold hpre heff => ?_
          have hl1 : vs.length ≤ 1 := hcov 1 11 _ rfl rfl (by kernel_rfl)
          refine ⟨fun hwant K hK => ?_, fun hwant => ?_⟩
          · clear hwant
            have hl0 : 0 ≤ vs.length ∧ vs.length ≤ 1 := ⟨by omega, by omega⟩
            rcases (by omega : vs.length = 0 ∨ vs.length = 1) with hl | hl
            · obtain rfl := vs_len0 hl
              have e4 : b__.eval (.tmp 4) = .pointer (some ⟨g4, 0, none⟩) := (hold 4 (by kernel_rfl)).trans rfl
              exact opw_iaddr rfl e4 rfl (by kernel_rfl) (hK _ rfl)
            · obtain ⟨x0, rfl⟩ := vs_len1 hl
              have e4 : b__.eval (.tmp 4) = .pointer (some ⟨g4, 0, none⟩) := (hold 4 (by kernel_rfl)).trans rfl
              exact opw_iaddr rfl e4 rfl (by kernel_rfl) (hK _ rfl)
          · rw [want_none rfl] at hwant; cases hwant
        case r5 =>
          refine qread rfl fun b__ w vs hS hcov hold hpre heff => ?_
          have hl1 : vs.length ≤ 1 := hcov 1 11 _ rfl rfl (by kernel_rfl)
          refine ⟨fun hwant K hK => ?_, fun hwant => ?_⟩
          · clear hwant
            have hl0 : 0 ≤ vs.length ∧ vs.length ≤ 1 := ⟨by omega, by omega⟩
            rcases (by omega : vs.length = 0 ∨ vs.length = 1) with hl | hl
            · obtain rfl := vs_len0 hl
              have e44 : b__.eval (.tmp 44) = .pointer (some ⟨g4, 1, none⟩) := hpre ⟨4, _⟩ (Array.mem_of_getElem? (i := 0) rfl) rfl _ _ rfl rfl rfl
              exact opw_cell rfl e44 (by kernel_rfl) ((St.box hS 0 rfl).cell 1) (hK _ rfl)
            · obtain ⟨x0, rfl⟩ := vs_len1 hl
              have e44 : b__.eval (.tmp 44) = .pointer (some ⟨g4, 1, none⟩) := hpre ⟨4, _⟩ (Array.mem_of_getElem? (i := 0) rfl) rfl _ _ rfl rfl rfl
              exact opw_cell rfl e44 (by kernel_rfl) ((St.box hS 0 rfl).cell 1) (hK _ rfl)
          · rw [want_none rfl] at hwant; cases hwant
        case r6 =>
          refine qread rfl fun b__ w vs hS hcov hold hpre heff => ?_
          have hl1 : vs.length ≤ 1 := hcov 1 11 _ rfl rfl (by kernel_rfl)
          refine ⟨fun hwant K hK => ?_, fun hwant => ?_⟩
          · clear hwant
            have hl0 : 0 ≤ vs.length ∧ vs.length ≤ 1 := ⟨by omega, by omega⟩
            rcases (by omega : vs.length = 0 ∨ vs.length = 1) with hl | hl
            · obtain rfl := vs_len0 hl
              have e43 : b__.eval (.tmp 43) = .slice (some ⟨g2, 0, none⟩) n n := hpre ⟨3, _⟩ (Array.mem_of_getElem? (i := 0) rfl) rfl _ _ rfl rfl rfl
              have e45 : b__.eval (.tmp 45) = .int .i64 ((xb : Nat) : Int) := hpre ⟨5, _⟩ (Array.mem_of_getElem? (i := 1) rfl) rfl _ _ rfl rfl rfl
              exact opw_iaddr rfl e43 e45 (run_iaddr_lit (m := xb) Tryd.underlying86 (by kernel_rfl) (by omega) (by omega)) (hK _ rfl)
            · obtain ⟨x0, rfl⟩ := vs_len1 hl
              have e43 : b__.eval (.tmp 43) = .slice (some ⟨g2, 0, none⟩) n n := hpre ⟨3, _⟩ (Array.mem_of_getElem? (i := 0) rfl) rfl _ _ rfl rfl rfl
              have e45 : b__.eval (.tmp 45) = .int .i64 ((xb : Nat) : Int) := hpre ⟨5, _⟩ (Array.mem_of_getElem? (i := 1) rfl) rfl _ _ rfl rfl rfl
              exact opw_iaddr rfl e43 e45 (run_iaddr_lit (m := xb) Tryd.underlying86 (by kernel_rfl) (by omega) (by omega)) (hK _ rfl)
          · rw [want_none rfl] at hwant; cases hwant
        case r7 =>
          refine qread rfl fun b__ w vs hS hcov hold hpre heff => ?_
          have hl1 : vs.length ≤ 1 := hcov 1 11 _ rfl rfl (by kernel_rfl)
          refine ⟨fun hwant K hK => ?_, fun hwant => ?_⟩
          · clear hwant
            have hl0 : 0 ≤ vs.length ∧ vs.length ≤ 1 := ⟨by omega, by omega⟩
            rcases (by omega : vs.length = 0 ∨ vs.length = 1) with hl | hl
            · obtain rfl := vs_len0 hl
              have e46 : b__.eval (.tmp 46) = .pointer (some ⟨g2, 0 + (xb) * 1, none⟩) := hpre ⟨6, _⟩ (Array.mem_of_getElem? (i := 0) rfl) rfl _ _ rfl rfl rfl
              exact opw_cell rfl e46 (by kernel_rfl) (by rw [Nat.zero_add, Nat.mul_one]; exact own_cell (St.own hS 1 rfl) xb _ (dv_at hxb)) (hK _ rfl)
            · obtain ⟨x0, rfl⟩ := vs_len1 hl
              have e46 : b__.eval (.tmp 46) = .pointer (some ⟨g2, 0 + (xb) * 1, none⟩) := hpre ⟨6, _⟩ (Array.mem_of_getElem? (i := 0) rfl) rfl _ _ rfl rfl rfl
              exact opw_cell rfl e46 (by kernel_rfl) (by rw [Nat.zero_add, Nat.mul_one]; exact own_cell (St.own hS 1 rfl) xb _ (dv_at hxb)) (hK _ rfl)
          · rw [want_none rfl] at hwant; cases hwant
        case r8 =>
          refine qread rfl fun b__ w vs hS hcov hold hpre heff => ?_
          have hl1 : vs.length ≤ 0 := hcov 0 10 _ rfl rfl (by kernel_rfl)
          refine ⟨fun hwant K hK => ?_, fun hwant => ?_⟩
          · clear hwant
            have hl0 : 0 ≤ vs.length ∧ vs.length ≤ 0 := ⟨by omega, by omega⟩
            rcases (by omega : vs.length = 0) with hl
            · obtain rfl := vs_len0 hl
              have e4 : b__.eval (.tmp 4) = .pointer (some ⟨g4, 0, none⟩) := (hold 4 (by kernel_rfl)).trans rfl
              exact opw_iaddr rfl e4 rfl (by kernel_rfl) (hK _ rfl)
          · rw [want_none rfl] at hwant; cases hwant
        case r9 =>
          refine qread rfl fun b__ w vs hS hcov hold hpre heff => ?_
          have hl1 : vs.length ≤ 0 := hcov 0 10 _ rfl rfl (by kernel_rfl)
          refine ⟨fun hwant K hK => ?_, fun hwant => ?_⟩
          · clear hwant
            have hl0 : 0 ≤ vs.length ∧ vs.length ≤ 0 := ⟨by omega, by omega⟩
            rcases (by omega : vs.length = 0) with hl
            · obtain rfl := vs_len0 hl
              have e48 : b__.eval (.tmp 48) = .pointer (some ⟨g4, 0, none⟩) := hpre ⟨8, _⟩ (Array.mem_of_getElem? (i := 0) rfl) rfl _ _ rfl rfl rfl
              exact opw_cell rfl e48 (by kernel_rfl) ((St.box hS 0 rfl).cell 0) (hK _ rfl)
          · rw [want_none rfl] at hwant; cases hwant
        case r10 =>
          refine qturn 0 rfl (by decide) fun b__ w vs hS hl hold hpre heff => ?_
          obtain rfl := vs_len0 hl
          refine ⟨fun hwant K hK => ?_, fun hwant => ?_⟩
          · clear hwant
            have e49 : b__.eval (.tmp 49) = .int .i64 ((xa : Nat) : Int) := hpre ⟨9, _⟩ (Array.mem_of_getElem? (i := 0) rfl) rfl _ _ rfl rfl rfl
            exact opw_slice rfl Tryd.underlying22 (ps := [(0, .int .i64 ((xa : Nat) : Int))]) (cells := #[.int .i64 ((xa : Nat) : Int)]) (by simp [e49]) (by kernel_rfl) fun w' hbx hbel => hK _ w' (St.ret hS hbel (stable_sl (by decide)) ((Sl.of_box (n := 1) (size := 1) hbx rfl (by decide)).imp fun b hb _ => Nat.le_of_eq hb.symm))
          · rw [want_none rfl] at hwant; cases hwant
        case r11 =>
          refine qturn 1 rfl (by decide) fun b__ w vs hS hl hold hpre heff => ?_
          obtain ⟨x0, rfl⟩ := vs_len1 hl
          refine ⟨fun hwant K hK => ?_, fun hwant => ?_⟩
          · clear hwant
            have e47 : b__.eval (.tmp 47) = dv xb := hpre ⟨7, _⟩ (Array.mem_of_getElem? (i := 0) rfl) rfl _ _ rfl rfl rfl
            have e50 : b__.eval (.tmp 50) = x0 := (heff ⟨10, _⟩ (Array.mem_of_getElem? (i := 1) rfl) rfl 0 _ _ rfl rfl rfl).2
            refine opw_app (n := (dirs (L.take j) xb).length) (m := 1) rfl ty_ints e47 (St.fam (H := [_, _, _, _, _, _, _]) hS hxb) e50 hS.ro.2 (by intro u hu; simp at hu; subst hu; rfl) (by omega) (by omega) hS.size fun v' w4 a1 a2 a3 => ?_
            have h := St.updFam (H := [_, _, _, _, _, _, _]) hS hxb v' (dirs (L.take j) xb ++ [xa]) a2 (by simpa [ints, natInts] using a1) a3
            rw [← HC.out] at h
            exact hK v' w4 (h.mono KS fun _ _ h => h.1)
          · rw [want_none rfl] at hwant; cases hwant
        case r12 =>
          refine qread rfl fun b__ w vs hS hcov hold hpre heff => ?_
          have hl1 : vs.length ≤ 2 := hcov 2 13 _ rfl rfl (by kernel_rfl)
          refine ⟨fun hwant K hK => ?_, fun hwant => ?_⟩
          · clear hwant
            have hl0 : 2 ≤ vs.length ∧ vs.length ≤ 2 := ⟨by have := (heff ⟨11, _⟩ (Array.mem_of_getElem? (i := 13) rfl) rfl 1 _ _ rfl rfl rfl).1; omega, by omega⟩
            rcases (by omega : vs.length = 2) with hl
            · obtain ⟨x0, x1, rfl⟩ := vs_len2 hl
              have e40 : b__.eval (.tmp 40) = .slice (some ⟨g2, 0, none⟩) n n := hpre ⟨0, _⟩ (Array.mem_of_getElem? (i := 0) rfl) rfl _ _ rfl rfl rfl
              have e42 : b__.eval (.tmp 42) = .int .i64 ((xb : Nat) : Int) := hpre ⟨2, _⟩ (Array.mem_of_getElem? (i := 1) rfl) rfl _ _ rfl rfl rfl
              exact opw_iaddr rfl e40 e42 (run_iaddr_lit (m := xb) Tryd.underlying86 (by kernel_rfl) (by omega) (by omega)) (hK _ rfl)
          · rw [want_none rfl] at hwant; cases hwant
        case r13 =>
          refine qturn 2 rfl (by decide) fun b__ w vs hS hl hold hpre heff => ?_
          obtain ⟨x0, x1, rfl⟩ := vs_len2 hl
          refine ⟨fun hwant K hK => ?_, fun hwant => ?_⟩
          · clear hwant
            have e52 : b__.eval (.tmp 52) = .pointer (some ⟨g2, 0 + (xb) * 1, none⟩) := hpre ⟨12, _⟩ (Array.mem_of_getElem? (i := 0) rfl) rfl _ _ rfl rfl rfl
            have e51 : b__.eval (.tmp 51) = x1 := (heff ⟨11, _⟩ (Array.mem_of_getElem? (i := 1) rfl) rfl 1 _ _ rfl rfl rfl).2
            obtain ⟨Au, cu, hu, _, _⟩ := own_shp (St.fam (H := [_, _, _, _, _, _, _]) hS hxb)
            rw [if_pos rfl] at hu
            exact opw_ostore rfl (g := g2) (i := xb) (e52.trans (by rw [Nat.zero_add, Nat.mul_one])) e51 (St.own hS 1 rfl) (by omega) (by rw [hu]; rfl) (by rw [hu]; rfl) (by kernel_rfl) fun w4 h1 hU => hK undef w4 (St.upd hS 1 rfl (.own (.slice (some ⟨g2, 0, none⟩) n n) 22 1 n ((List.range n).map fun k => if k = xb then x1 else dv k)) (by simpa [Fact.blk, Value.ownBlock] using upd_gb hU) (by have h2 := h1; rw [dv_set] at h2; exact h2) fun _ e => .inl e)
          · rw [want_none rfl] at hwant; cases hwant
        case post =>
          intro b__ wz vs hS hl hdf hsz hold hT hE
          obtain ⟨x0, x1, x2, rfl⟩ := vs_len3 hl
          have e40 : b__.eval (.tmp 40) = .slice (some ⟨g2, 0, none⟩) n n := hT 0 _ 40 rfl rfl rfl
          have e41 : b__.eval (.tmp 41) = .pointer (some ⟨g4, 1, none⟩) := hT 1 _ 41 rfl rfl rfl
          have e42 : b__.eval (.tmp 42) = .int .i64 ((xb : Nat) : Int) := hT 2 _ 42 rfl rfl rfl
          have e43 : b__.eval (.tmp 43) = .slice (some ⟨g2, 0, none⟩) n n := hT 3 _ 43 rfl rfl rfl
          have e44 : b__.eval (.tmp 44) = .pointer (some ⟨g4, 1, none⟩) := hT 4 _ 44 rfl rfl rfl
          have e45 : b__.eval (.tmp 45) = .int .i64 ((xb : Nat) : Int) := hT 5 _ 45 rfl rfl rfl
          have e46 : b__.eval (.tmp 46) = .pointer (some ⟨g2, 0 + (xb) * 1, none⟩) := hT 6 _ 46 rfl rfl rfl
          have e47 : b__.eval (.tmp 47) = dv xb := hT 7 _ 47 rfl rfl rfl
          have e48 : b__.eval (.tmp 48) = .pointer (some ⟨g4, 0, none⟩) := hT 8 _ 48 rfl rfl rfl
          have e49 : b__.eval (.tmp 49) = .int .i64 ((xa : Nat) : Int) := hT 9 _ 49 rfl rfl rfl
          have e50 : b__.eval (.tmp 50) = x0 := hE 0 10 _ 50 rfl rfl rfl
          have e51 : b__.eval (.tmp 51) = x1 := hE 1 11 _ 51 rfl rfl rfl
          have e52 : b__.eval (.tmp 52) = .pointer (some ⟨g2, 0 + (xb) * 1, none⟩) := hT 12 _ 52 rfl rfl rfl
          obtain ⟨us, hus, hb⟩ := frame_of hdf hsz hold
          replace e40 : us 40 = .slice (some ⟨g2, 0, none⟩) n n := (hus 40).symm.trans e40
          replace e41 : us 41 = .pointer (some ⟨g4, 1, none⟩) := (hus 41).symm.trans e41
          replace e42 : us 42 = .int .i64 ((xb : Nat) : Int) := (hus 42).symm.trans e42
          replace e43 : us 43 = .slice (some ⟨g2, 0, none⟩) n n := (hus 43).symm.trans e43
          replace e44 : us 44 = .pointer (some ⟨g4, 1, none⟩) := (hus 44).symm.trans e44
          replace e45 : us 45 = .int .i64 ((xb : Nat) : Int) := (hus 45).symm.trans e45
          replace e46 : us 46 = .pointer (some ⟨g2, 0 + (xb) * 1, none⟩) := (hus 46).symm.trans e46
          replace e47 : us 47 = dv xb := (hus 47).symm.trans e47
          replace e48 : us 48 = .pointer (some ⟨g4, 0, none⟩) := (hus 48).symm.trans e48
          replace e49 : us 49 = .int .i64 ((xa : Nat) : Int) := (hus 49).symm.trans e49
          replace e50 : us 50 = x0 := (hus 50).symm.trans e50
          replace e51 : us 51 = x1 := (hus 51).symm.trans e51
          replace e52 : us 52 = .pointer (some ⟨g2, 0 + (xb) * 1, none⟩) := (hus 52).symm.trans e52
          subst hb
          clear hus hold hT hE hdf hsz hl
          simp only [setAll, Act.put, List.setIfInBounds_toArray, List.set_cons_zero, List.set_cons_succ, List.getElem_toArray, List.getElem_cons_succ, List.getElem_cons_zero]
          clear e40 e41 e42 e43 e44 e45 e46 e47 e48 e49 e50 e51 e52
          go_wp2_with fail
          exact ⟨⟨j + 1, _, hlj, by go_num, St.sub hS (.cons _ (.refl _))⟩, by simp [intOf]; omega⟩
      · obtain rfl : j = L.length := by omega
        rw [List.take_length] at hS
        clear hlj hj
        have HSV := Lib.hid hsv
        subst hsv
        go_wp2_with (first | ((with_reducible show wpList _ _ _ (⟨_, .binOp _ _ _ _ _, _, _, _, _⟩ :: _) _ _); (first | (refine st_lss rfl _ _ _ _ rfl _ _ _ rfl rfl (fun h_ => ?_) (fun h_ => ?_)) | (refine st_leq rfl _ _ _ _ rfl _ _ _ rfl rfl (fun h_ => ?_) (fun h_ => ?_)) | (refine st_gtr rfl _ _ _ _ rfl _ _ _ rfl rfl (fun h_ => ?_) (fun h_ => ?_)) | (refine st_geq rfl _ _ _ _ rfl _ _ _ rfl rfl (fun h_ => ?_) (fun h_ => ?_)) | (refine st_eql rfl _ _ _ _ rfl _ _ _ rfl rfl (fun h_ => ?_) (fun h_ => ?_)) | (refine st_neq rfl _ _ _ _ rfl _ _ _ rfl rfl (fun h_ => ?_) (fun h_ => ?_))) <;> go_prune) | ((with_reducible show wpList _ _ _ (⟨_, .load _ _, _, _, _, _⟩ :: _) _ _); first | (refine st_cell hS 0 rfl _ _ rfl _ _ rfl _ _ rfl (by decide +kernel) _ (by first | assumption | rfl) ?_) | (refine st_cell hS 1 rfl _ _ rfl _ _ rfl _ _ rfl (by decide +kernel) _ (by first | assumption | rfl) ?_) | (refine st_cell hS 2 rfl _ _ rfl _ _ rfl _ _ rfl (by decide +kernel) _ (by first | assumption | rfl) ?_) | (refine st_cell hS 3 rfl _ _ rfl _ _ rfl _ _ rfl (by decide +kernel) _ (by first | assumption | rfl) ?_) | (refine st_cell hS 4 rfl _ _ rfl _ _ rfl _ _ rfl (by decide +kernel) _ (by first | assumption | rfl) ?_) | (refine st_cell hS 5 rfl _ _ rfl _ _ rfl _ _ rfl (by decide +kernel) _ (by first | assumption | rfl) ?_) | (refine st_cell hS 6 rfl _ _ rfl _ _ rfl _ _ rfl (by decide +kernel) _ (by first | assumption | rfl) ?_) | (refine st_cell hS 7 rfl _ _ rfl _ _ rfl _ _ rfl (by decide +kernel) _ (by first | assumption | rfl) ?_)))
        have hz : (List.replicate n (Value.slice none 0 0)).length = n := List.length_replicate
        replace hS := hS.add (r := fun D w => SetsX (List.replicate n (.slice none 0 0)) n (fun k => if k ∈ S.take 0 then aboveM n L k else 0) D w ∧ SetsX (List.replicate n (.slice none 0 0)) n (blP n L (S.take 0)) D w) (stable_setsX.and stable_setsX) (D := fun _ => False) ⟨by simpa using SetsX.zero n _ wr, by
          have : blP n L (S.take 0) = fun _ => 0 := funext fun b => by rw [List.take_zero]; exact blP_nil n L b
          rw [this]; exact SetsX.zero n _ wr⟩ fun _ h _ => h.elim
        refine wp_loop_ghost (fun m a w => ∃ i ds xa xb, RelI w0 K F0 q n (.slice A L.length c) (.slice As S.length cs) (.slice (some ⟨g6, 0, none⟩) n n) (.slice (some ⟨g11, 0, none⟩) n n) g1 g2 L S dv m a w i ds xa xb) n ⟨0, [], _, _, ⟨by omega, rfl, rfl, rfl, rfl, rfl, rfl, rfl, hz, hz, by
          have e : F0 ++ marksF [] = F0 := by simp [marksF]
          rw [e]; exact hS⟩⟩ ?_
        clear hS hz
        rintro m ⟨tm, df⟩ wr ⟨i, ds, xa, xb, hI⟩
        obtain ⟨him, hsz, s1, s2, s57, s58, s59, hdf, hxa, hxb, hS⟩ := hI
        dsimp only at hsz s1 s2 s57 s58 s59 hdf
        subst hdf
        have e : tm = #[tm.getD 0 undef, tm.getD 1 undef, tm.getD 2 undef, tm.getD 3 undef, tm.getD 4 undef, tm.getD 5 undef, tm.getD 6 undef, tm.getD 7 undef, tm.getD 8 undef, tm.getD 9 undef, tm.getD 10 undef, tm.getD 11 undef, tm.getD 12 undef, tm.getD 13 undef, tm.getD 14 undef, tm.getD 15 undef, tm.getD 16 undef, tm.getD 17 undef, tm.getD 18 undef, tm.getD 19 undef, tm.getD 20 undef, tm.getD 21 undef, tm.getD 22 undef, tm.getD 23 undef, tm.getD 24 undef, tm.getD 25 undef, tm.getD 26 undef, tm.getD 27 undef, tm.getD 28 undef, tm.getD 29 undef, tm.getD 30 undef, tm.getD 31 undef, tm.getD 32 undef, tm.getD 33 undef, tm.getD 34 undef, tm.getD 35 undef, tm.getD 36 undef, tm.getD 37 undef, tm.getD 38 undef, tm.getD 39 undef, tm.getD 40 undef, tm.getD 41 undef, tm.getD 42 undef, tm.getD 43 undef, tm.getD 44 undef, tm.getD 45 undef, tm.getD 46 undef, tm.getD 47 undef, tm.getD 48 undef, tm.getD 49 undef, tm.getD 50 undef, tm.getD 51 undef, tm.getD 52 undef, tm.getD 53 undef, tm.getD 54 undef, tm.getD 55 undef, tm.getD 56 undef, tm.getD 57 undef, tm.getD 58 undef, tm.getD 59 undef, tm.getD 60 undef, tm.getD 61 undef, tm.getD 62 undef, tm.getD 63 undef, tm.getD 64 undef, tm.getD 65 undef, tm.getD 66 undef, tm.getD 67 undef, tm.getD 68 undef, tm.getD 69 undef, tm.getD 70 undef, tm.getD 71 undef, tm.getD 72 undef, tm.getD 73 undef, tm.getD 74 undef, tm.getD 75 undef, tm.getD 76 undef, tm.getD 77 undef, tm.getD 78 undef, tm.getD 79 undef, tm.getD 80 undef, tm.getD 81 undef, tm.getD 82 undef, tm.getD 83 undef, tm.getD 84 undef, tm.getD 85 undef, tm.getD 86 undef, tm.getD 87 undef, tm.getD 88 undef, tm.getD 89 undef, tm.getD 90 undef, tm.getD 91 undef, tm.getD 92 undef, tm.getD 93 undef, tm.getD 94 undef, tm.getD 95 undef, tm.getD 96 undef, tm.getD 97 undef, tm.getD 98 undef, tm.getD 99 undef, tm.getD 100 undef, tm.getD 101 undef, tm.getD 102 undef, tm.getD 103 undef, tm.getD 104 undef, tm.getD 105 undef, tm.getD 106 undef, tm.getD 107 undef, tm.getD 108 undef, tm.getD 109 undef, tm.getD 110 undef, tm.getD 111 undef, tm.getD 112 undef, tm.getD 113 undef, tm.getD 114 undef, tm.getD 115 undef, tm.getD 116 undef, tm.getD 117 undef, tm.getD 118 undef, tm.getD 119 undef, tm.getD 120 undef] := (lit_of hsz).trans rfl
        obtain ⟨us, hus⟩ : ∃ us : Nat → Value, ∀ k, tm.getD k undef = us k := ⟨_, fun _ => rfl⟩
        rw [s1, s2, s57, s58, s59] at e
        simp only [hus] at e
        clear hus s1 s2 s57 s58 s59 hsz
        subst e
        by_cases hlt : i < S.length
        · obtain ⟨gs, cas, es, _, _⟩ := own_pos (hS.own 5 rfl) (by omega)
          injection es with es1 es2 es3
          subst es1 es3
          have hbS : S.getD i 0 ∈ S := by rw [List.getD_eq_getElem?_getD, List.getElem?_eq_getElem hlt]; exact List.getElem_mem hlt
          have hb := HSB.out _ hbS
          have HGi := Lib.hid (getD_at 0 hlt)
          have hcell := ints_natA S i hlt
          generalize S.getD i 0 = b at *
          have HCell := Lib.hid hcell
          clear hcell hbS
          obtain ⟨A', c', hdv, _, _⟩ := own_shp (St.fam (H := [_, _, _, _, _, _]) hS hb)
          have HDV := Lib.hid ((dv_at hb).trans (congrArg some hdv))
          have HDV2 := Lib.hid hdv
          clear hdv
          go_wp2_with (first
            | ((with_reducible show wpList _ _ _ (⟨_, .binOp _ _ _ _ _, _, _, _, _⟩ :: _) _ _); (first | (refine st_lss rfl _ _ _ _ rfl _ _ _ rfl rfl (fun h_ => ?_) (fun h_ => ?_)) | (refine st_leq rfl _ _ _ _ rfl _ _ _ rfl rfl (fun h_ => ?_) (fun h_ => ?_)) | (refine st_gtr rfl _ _ _ _ rfl _ _ _ rfl rfl (fun h_ => ?_) (fun h_ => ?_)) | (refine st_geq rfl _ _ _ _ rfl _ _ _ rfl rfl (fun h_ => ?_) (fun h_ => ?_)) | (refine st_eql rfl _ _ _ _ rfl _ _ _ rfl rfl (fun h_ => ?_) (fun h_ => ?_)) | (refine st_neq rfl _ _ _ _ rfl _ _ _ rfl rfl (fun h_ => ?_) (fun h_ => ?_))) <;> go_prune)
            | ((with_reducible show wpList _ _ _ (⟨some 62, _, _, _, _, _⟩ :: _) _ _); refine BigFrame.wpList_want rfl fun _ hK => opw_cell rfl rfl (by kernel_rfl) (own_cell (hS.own 5 rfl) _ _ (HCell.out)) (hK _ _ ?_))
            | ((with_reducible show wpList _ _ _ (⟨some 66, _, _, _, _, _⟩ :: _) _ _); refine BigFrame.wpList_want rfl fun _ hK => opw_cell rfl rfl (by kernel_rfl) (own_cell (hS.own 1 rfl) _ _ (HDV.out)) (hK _ _ ?_))
            | ((with_reducible show wpList _ _ _ (⟨some 6, _, _, _, _, _⟩ :: _) _ _); refine st_alloc hS rfl _ rfl (by kernel_rfl) ?_; clear hS; intro g6b w_ hS; (try simp only [Act.put, Act.eval, List.set_cons_zero, List.set_cons_succ, List.setIfInBounds_toArray, Array.getD_eq_getD_getElem?, List.getElem?_toArray, List.getElem?_cons_succ, List.getElem?_cons_zero, Option.getD_some, Value.cells] at hS))
            | ((with_reducible show wpList _ _ _ (⟨_, .store _ _ _, _, _, _, _⟩ :: _) _ _); (first | (refine st_store hS 0 rfl _ _ _ rfl _ _ rfl rfl _ _ rfl (by kernel_rfl) (by kernel_rfl) (by kernel_rfl) ?_) | (refine st_store hS 1 rfl _ _ _ rfl _ _ rfl rfl _ _ rfl (by kernel_rfl) (by kernel_rfl) (by kernel_rfl) ?_) | (refine st_store hS 2 rfl _ _ _ rfl _ _ rfl rfl _ _ rfl (by kernel_rfl) (by kernel_rfl) (by kernel_rfl) ?_) | (refine st_store hS 3 rfl _ _ _ rfl _ _ rfl rfl _ _ rfl (by kernel_rfl) (by kernel_rfl) (by kernel_rfl) ?_) | (refine st_cstore hS 0 rfl _ _ _ rfl _ _ _ rfl rfl rfl (by first | (simp; done) | (simp; omega) | exact of_decide_eq_true (by kernel_rfl)) rfl (by first | rfl | assumption) (by kernel_rfl) ?_) | (refine st_cstore hS 1 rfl _ _ _ rfl _ _ _ rfl rfl rfl (by first | (simp; done) | (simp; omega) | exact of_decide_eq_true (by kernel_rfl)) rfl (by first | rfl | assumption) (by kernel_rfl) ?_) | (refine st_cstore hS 2 rfl _ _ _ rfl _ _ _ rfl rfl rfl (by first | (simp; done) | (simp; omega) | exact of_decide_eq_true (by kernel_rfl)) rfl (by first | rfl | assumption) (by kernel_rfl) ?_) | (refine st_cstore hS 3 rfl _ _ _ rfl _ _ _ rfl rfl rfl (by first | (simp; done) | (simp; omega) | exact of_decide_eq_true (by kernel_rfl)) rfl (by first | rfl | assumption) (by kernel_rfl) ?_)); clear hS; intro w_ hS; (try simp only [Act.put, Act.eval, List.set_cons_zero, List.set_cons_succ, List.setIfInBounds_toArray, Array.getD_eq_getD_getElem?, List.getElem?_toArray, List.getElem?_cons_succ, List.getElem?_cons_zero, Option.getD_some, Value.cells] at hS))
            | ((with_reducible show wpList _ _ _ (⟨_, .load _ _, _, _, _, _⟩ :: _) _ _); first | (refine st_cell hS 0 rfl _ _ rfl _ _ rfl _ _ rfl (by decide +kernel) _ (by first | assumption | rfl) ?_) | (refine st_cell hS 1 rfl _ _ rfl _ _ rfl _ _ rfl (by decide +kernel) _ (by first | assumption | rfl) ?_) | (refine st_cell hS 2 rfl _ _ rfl _ _ rfl _ _ rfl (by decide +kernel) _ (by first | assumption | rfl) ?_) | (refine st_cell hS 3 rfl _ _ rfl _ _ rfl _ _ rfl (by decide +kernel) _ (by first | assumption | rfl) ?_) | (refine st_cell hS 4 rfl _ _ rfl _ _ rfl _ _ rfl (by decide +kernel) _ (by first | assumption | rfl) ?_) | (refine st_cell hS 5 rfl _ _ rfl _ _ rfl _ _ rfl (by decide +kernel) _ (by first | assumption | rfl) ?_) | (refine st_cell hS 6 rfl _ _ rfl _ _ rfl _ _ rfl (by decide +kernel) _ (by first | assumption | rfl) ?_) | (refine st_cell hS 7 rfl _ _ rfl _ _ rfl _ _ rfl (by decide +kernel) _ (by first | assumption | rfl) ?_)))
          have hbn : b ∉ S.take i := fun h => by
            obtain ⟨j, hj⟩ := List.mem_iff_getElem?.1 h
            rw [List.getElem?_take] at hj
            split at hj
            · have := nodup_inj HT.out.1 hj HGi.out; omega
            · cases hj
          have HBN := Lib.hid hbn
          have hS0 : St w0 w_ (.box g6b 3 #[.int .i64 (b : Nat)] :: relF q n (.slice A L.length c) (.slice (some ⟨gs, 0, none⟩) S.length cs) (.slice (some ⟨g6, 0, none⟩) n n) (.slice (some ⟨g11, 0, none⟩) n n) g1 g2 S ((List.range n).map dv) xa xb (famF dv (dirs L) n ++ (F0 ++ marksF ds))) (fun D w => K D w ∧ SetsX xa n (fun k => if k = b then abTo n L b 0 else if k ∈ S.take i then aboveM n L k else 0) D w ∧ SetsX xb n (blP n L (S.take i)) D w) := hS.mono (KS.and (stable_setsX.and stable_setsX)) fun D w h => ⟨h.1, h.2.1.congr fun k _ => by
            by_cases e : k = b
            · subst e; rw [if_neg HBN.out, if_pos rfl, abTo_zero]
            · rw [if_neg e], h.2.2⟩
          clear hS hbn
          go_loopw [68] (fun jv wr => ∃ (j : Nat) (xa' : List Value), j ≤ (dirs L b).length ∧ jv = .int .i64 j ∧ Hid (xa'.length = n) ∧ St w0 wr (.box g6b 3 #[.int .i64 (b : Nat)] :: relF q n (.slice A L.length c) (.slice (some ⟨gs, 0, none⟩) S.length cs) (.slice (some ⟨g6, 0, none⟩) n n) (.slice (some ⟨g11, 0, none⟩) n n) g1 g2 S ((List.range n).map dv) xa' xb (famF dv (dirs L) n ++ (F0 ++ marksF ds))) (fun D w => K D w ∧ SetsX xa' n (fun k => if k = b then abTo n L b j else if k ∈ S.take i then aboveM n L k else 0) D w ∧ SetsX xb n (blP n L (S.take i)) D w)) (fun jv _ => (dirs L b).length - (intOf jv).toNat)
          case atStart => exact ⟨0, xa, by omega, rfl, Lib.hid hxa, hS0⟩
          case round =>
            clear hS0
            obtain ⟨j, xa', hj, rfl, HXA, hS⟩ := hrel
            by_cases hlj : j < (dirs L b).length
            · have ho := St.fam (H := [_, _, _, _, _, _, _]) hS hb
              rw [HDV2.out] at ho
              obtain ⟨gd, cd, ed, _, _⟩ := own_pos ho (by omega)
              injection ed with ed1 ed2 ed3
              subst ed1 ed3
              have HO := Lib.hid ho
              have HYc := Lib.hid (ints_natA (dirs L b) j hlj)
              have HY := Lib.hid (getD_at 0 hlj)
              generalize (dirs L b).getD j 0 = y at *
              have hyL : (y, b) ∈ L := mem_dirs.1 (List.mem_of_getElem? HY.out)
              have hy := (HL.out _ hyL).1
              dsimp only at hy
              have hyS := HT.out.2 i b HGi.out y hyL
              have hyb : y ≠ b := fun e => HBN.out (e ▸ hyS)
              have HST := Lib.hid (show withN (abTo n L b j ||| aboveM n L y) (y : Int) = abTo n L b (j + 1) by
                rw [withN, if_pos (by omega), Int.toNat_natCast]; exact abTo_step HL.out HY.out)
              obtain ⟨ub, hub, -⟩ := hS.ro.2.1 b hb
              obtain ⟨uy, huy, -⟩ := hS.ro.2.1 y hy
              have HU1 : Hid (∀ w, Below wr.heap.size wr w → ∃ D, IsSet w D (.agg #[ub]) (abTo n L b j)) := Lib.hid fun w h => by
                obtain ⟨u, h1, h2⟩ := (hS.ext h).ro.2.1 b hb
                rw [hub] at h1; injection h1 with h1; subst h1
                dsimp only at h2; rw [if_pos rfl] at h2; exact ⟨_, h2⟩
              have HU2 : Hid (∀ w, Below wr.heap.size wr w → ∃ D, IsSet w D (.agg #[uy]) (aboveM n L y)) := Lib.hid fun w h => by
                obtain ⟨u, h1, h2⟩ := (hS.ext h).ro.2.1 y hy
                rw [huy] at h1; injection h1 with h1; subst h1
                dsimp only at h2; rw [if_neg hyb, if_pos hyS] at h2; exact ⟨_, h2⟩
              have HUB := Lib.hid hub
              have HUY := Lib.hid huy
              clear hub huy ho hyL hyS
              go_wp2_with (first
                | ((with_reducible show wpList _ _ _ (⟨_, .binOp _ _ _ _ _, _, _, _, _⟩ :: _) _ _); (first | (refine st_lss rfl _ _ _ _ rfl _ _ _ rfl rfl (fun h_ => ?_) (fun h_ => ?_)) | (refine st_leq rfl _ _ _ _ rfl _ _ _ rfl rfl (fun h_ => ?_) (fun h_ => ?_)) | (refine st_gtr rfl _ _ _ _ rfl _ _ _ rfl rfl (fun h_ => ?_) (fun h_ => ?_)) | (refine st_geq rfl _ _ _ _ rfl _ _ _ rfl rfl (fun h_ => ?_) (fun h_ => ?_)) | (refine st_eql rfl _ _ _ _ rfl _ _ _ rfl rfl (fun h_ => ?_) (fun h_ => ?_)) | (refine st_neq rfl _ _ _ _ rfl _ _ _ rfl rfl (fun h_ => ?_) (fun h_ => ?_))) <;> go_prune)
                | ((with_reducible show wpList _ _ _ (⟨some 71, _, _, _, _, _⟩ :: _) _ _); refine BigFrame.wpList_want rfl fun _ hK => opw_cell rfl rfl (by kernel_rfl) (own_cell HO.out _ _ HYc.out) (hK _ _ ?_)))
              refine wp_region_tail (fun i__ v w => match i__ with
                | 0 => v = .pointer (some ⟨q, 0, none⟩)
                | 1 => v = .pointer (some ⟨q, 0, none⟩)
                | 2 => v = .pointer (some ⟨q, 2, none⟩)
                | 3 => v = .slice (some ⟨g6, 0, none⟩) n n
                | 4 => v = .int .i64 ((b : Nat) : Int)
                | 5 => v = .pointer (some ⟨q, 0, none⟩)
                | 6 => v = .pointer (some ⟨q, 0, none⟩)
                | 7 => v = .pointer (some ⟨q, 2, none⟩)
                | 8 => v = .slice (some ⟨g6, 0, none⟩) n n
                | 9 => v = .int .i64 ((b : Nat) : Int)
                | 10 => v = .pointer (some ⟨g6, 0 + (b) * 1, none⟩)
                | 11 => v = .agg #[ub]
                | 12 => v = .pointer (some ⟨q, 0, none⟩)
                | 13 => v = .pointer (some ⟨q, 0, none⟩)
                | 14 => v = .pointer (some ⟨q, 2, none⟩)
                | 15 => v = .slice (some ⟨g6, 0, none⟩) n n
                | 16 => v = .int .i64 ((y : Nat) : Int)
                | 17 => v = .pointer (some ⟨g6, 0 + (y) * 1, none⟩)
                | 18 => v = .agg #[uy]
                | 19 => ∃ u, v = .agg #[u] ∧ IsSet w (fun z => wr.heap.size ≤ z) (.agg #[u]) (abTo n L b j ||| aboveM n L y)
                | 20 => v = .int .i64 ((y : Nat) : Int)
                | 21 => ∃ u, v = .agg #[u] ∧ u.oneCell' = true ∧ IsSet w (fun z => wr.heap.size ≤ z) (.agg #[u]) (abTo n L b (j + 1))
                | 22 => v = .pointer (some ⟨g6, 0 + (b) * 1, none⟩)
                | 23 => True
                | _ => True) 23 [] (by kernel_rfl) (by kernel_rfl) (by kernel_rfl) (by kernel_rfl) (by kernel_rfl) ?mono ⟨.inr ?r0, .inr ?r1, .inr ?r2, .inr ?r3, .inr ?r4, .inr ?r5, .inr ?r6, .inr ?r7, .inr ?r8, .inr ?r9, .inr ?r10, .inr ?r11, .inr ?r12, .inr ?r13, .inr ?r14, .inr ?r15, .inr ?r16, .inr ?r17, .inr ?r18, .inr ?r19, .inr ?r20, .inr ?r21, .inr ?r22, .inl (by decide), trivial⟩ ?post
              case mono =>
                intro i v w w' h hb
                match i, h with
                | 0, h => exact h
                | 1, h => exact h
                | 2, h => exact h
                | 3, h => exact h
                | 4, h => exact h
                | 5, h => exact h
                | 6, h => exact h
                | 7, h => exact h
                | 8, h => exact h
                | 9, h => exact h
                | 10, h => exact h
                | 11, h => exact h
                | 12, h => exact h
                | 13, h => exact h
                | 14, h => exact h
                | 15, h => exact h
                | 16, h => exact h
                | 17, h => exact h
                | 18, h => exact h
                | 19, h => exact ⟨_, h.choose_spec.1, h.choose_spec.2.ext hb⟩
                | 20, h => exact h
                | 21, h => exact ⟨_, h.choose_spec.1, h.choose_spec.2.1, h.choose_spec.2.2.ext hb⟩
                | 22, h => exact h
                | 23, h => exact h
                | _ + 24, h => trivial
              case r0 =>
                refine trule fun b__ w hW hold hpre => ⟨fun hwant K hK => ?_, fun hwant => ?_⟩
                · clear hwant
                  have e1 : b__.eval (.tmp 1) = .pointer (some ⟨g1, 0, none⟩) := (hold 1 (by kernel_rfl)).trans rfl
                  exact opw_cell rfl e1 (by kernel_rfl) (((hS.ext (undrew hW)).box 5 rfl).cell 0) (hK _ _ rfl (Below.refl _ _))
                · rw [want_none rfl] at hwant; cases hwant
              case r1 =>
                refine trule fun b__ w hW hold hpre => ⟨fun hwant K hK => ?_, fun hwant => ?_⟩
                · clear hwant
                  have e72 : b__.eval (.tmp 72) = .pointer (some ⟨q, 0, none⟩) := hpre ⟨0, _⟩ (Array.mem_of_getElem? (i := 0) rfl) rfl _ _ rfl rfl
                  exact opw_nil rfl e72 (hK _ _ rfl (Below.refl _ _))
                · rw [want_none rfl] at hwant; cases hwant
              case r2 =>
                refine trule fun b__ w hW hold hpre => ⟨fun hwant K hK => ?_, fun hwant => ?_⟩
                · clear hwant
                  have e73 : b__.eval (.tmp 73) = .pointer (some ⟨q, 0, none⟩) := hpre ⟨1, _⟩ (Array.mem_of_getElem? (i := 0) rfl) rfl _ _ rfl rfl
                  exact opw_faddr rfl e73 (by kernel_rfl) (hK _ _ rfl (Below.refl _ _))
                · rw [want_none rfl] at hwant; cases hwant
              case r3 =>
                refine trule fun b__ w hW hold hpre => ⟨fun hwant K hK => ?_, fun hwant => ?_⟩
                · clear hwant
                  have e74 : b__.eval (.tmp 74) = .pointer (some ⟨q, 2, none⟩) := hpre ⟨2, _⟩ (Array.mem_of_getElem? (i := 0) rfl) rfl _ _ rfl rfl
                  exact opw_cell rfl e74 (by kernel_rfl) (((hS.ext (undrew hW)).box 2 rfl).cell 2) (hK _ _ rfl (Below.refl _ _))
                · rw [want_none rfl] at hwant; cases hwant
              case r4 =>
                refine trule fun b__ w hW hold hpre => ⟨fun hwant K hK => ?_, fun hwant => ?_⟩
                · clear hwant
                  have e6 : b__.eval (.tmp 6) = .pointer (some ⟨g6b, 0, none⟩) := (hold 6 (by kernel_rfl)).trans rfl
                  exact opw_cell rfl e6 (by kernel_rfl) (((hS.ext (undrew hW)).box 0 rfl).cell 0) (hK _ _ rfl (Below.refl _ _))
                · rw [want_none rfl] at hwant; cases hwant
              case r5 =>
                refine trule fun b__ w hW hold hpre => ⟨fun hwant K hK => ?_, fun hwant => ?_⟩
                · clear hwant
                  have e1 : b__.eval (.tmp 1) = .pointer (some ⟨g1, 0, none⟩) := (hold 1 (by kernel_rfl)).trans rfl
                  exact opw_cell rfl e1 (by kernel_rfl) (((hS.ext (undrew hW)).box 5 rfl).cell 0) (hK _ _ rfl (Below.refl _ _))
                · rw [want_none rfl] at hwant; cases hwant
              case r6 =>
                refine trule fun b__ w hW hold hpre => ⟨fun hwant K hK => ?_, fun hwant => ?_⟩
                · clear hwant
                  have e77 : b__.eval (.tmp 77) = .pointer (some ⟨q, 0, none⟩) := hpre ⟨5, _⟩ (Array.mem_of_getElem? (i := 0) rfl) rfl _ _ rfl rfl
                  exact opw_nil rfl e77 (hK _ _ rfl (Below.refl _ _))
                · rw [want_none rfl] at hwant; cases hwant
              case r7 =>
                refine trule fun b__ w hW hold hpre => ⟨fun hwant K hK => ?_, fun hwant => ?_⟩
                · clear hwant
                  have e78 : b__.eval (.tmp 78) = .pointer (some ⟨q, 0, none⟩) := hpre ⟨6, _⟩ (Array.mem_of_getElem? (i := 0) rfl) rfl _ _ rfl rfl
                  exact opw_faddr rfl e78 (by kernel_rfl) (hK _ _ rfl (Below.refl _ _))
                · rw [want_none rfl] at hwant; cases hwant
              case r8 =>
                refine trule fun b__ w hW hold hpre => ⟨fun hwant K hK => ?_, fun hwant => ?_⟩
                · clear hwant
                  have e79 : b__.eval (.tmp 79) = .pointer (some ⟨q, 2, none⟩) := hpre ⟨7, _⟩ (Array.mem_of_getElem? (i := 0) rfl) rfl _ _ rfl rfl
                  exact opw_cell rfl e79 (by kernel_rfl) (((hS.ext (undrew hW)).box 2 rfl).cell 2) (hK _ _ rfl (Below.refl _ _))
                · rw [want_none rfl] at hwant; cases hwant
              case r9 =>
                refine trule fun b__ w hW hold hpre => ⟨fun hwant K hK => ?_, fun hwant => ?_⟩
                · clear hwant
                  have e6 : b__.eval (.tmp 6) = .pointer (some ⟨g6b, 0, none⟩) := (hold 6 (by kernel_rfl)).trans rfl
                  exact opw_cell rfl e6 (by kernel_rfl) (((hS.ext (undrew hW)).box 0 rfl).cell 0) (hK _ _ rfl (Below.refl _ _))
                · rw [want_none rfl] at hwant; cases hwant
              case r10 =>
                refine trule fun b__ w hW hold hpre => ⟨fun hwant K hK => ?_, fun hwant => ?_⟩
                · clear hwant
                  have e80 : b__.eval (.tmp 80) = .slice (some ⟨g6, 0, none⟩) n n := hpre ⟨8, _⟩ (Array.mem_of_getElem? (i := 0) rfl) rfl _ _ rfl rfl
                  have e81 : b__.eval (.tmp 81) = .int .i64 ((b : Nat) : Int) := hpre ⟨9, _⟩ (Array.mem_of_getElem? (i := 1) rfl) rfl _ _ rfl rfl
                  exact opw_iaddr rfl e80 e81 (run_iaddr_lit (m := b) Tryd.underlying67 (by kernel_rfl) (by omega) (by omega)) (hK _ _ rfl (Below.refl _ _))
                · rw [want_none rfl] at hwant; cases hwant
              case r11 =>
                refine trule fun b__ w hW hold hpre => ⟨fun hwant K hK => ?_, fun hwant => ?_⟩
                · clear hwant
                  have e82 : b__.eval (.tmp 82) = .pointer (some ⟨g6, 0 + (b) * 1, none⟩) := hpre ⟨10, _⟩ (Array.mem_of_getElem? (i := 0) rfl) rfl _ _ rfl rfl
                  exact opw_oload1 rfl (e82.trans (by rw [Nat.zero_add, Nat.mul_one])) ((hS.ext (undrew hW)).own 3 rfl) HUB.out Tryd.underlying31 rfl (by kernel_rfl) (hK _ _ rfl (Below.refl _ _))
                · rw [want_none rfl] at hwant; cases hwant
              case r12 =>
                refine trule fun b__ w hW hold hpre => ⟨fun hwant K hK => ?_, fun hwant => ?_⟩
                · clear hwant
                  have e1 : b__.eval (.tmp 1) = .pointer (some ⟨g1, 0, none⟩) := (hold 1 (by kernel_rfl)).trans rfl
                  exact opw_cell rfl e1 (by kernel_rfl) (((hS.ext (undrew hW)).box 5 rfl).cell 0) (hK _ _ rfl (Below.refl _ _))
                · rw [want_none rfl] at hwant; cases hwant
              case r13 =>
                refine trule fun b__ w hW hold hpre => ⟨fun hwant K hK => ?_, fun hwant => ?_⟩
                · clear hwant
                  have e84 : b__.eval (.tmp 84) = .pointer (some ⟨q, 0, none⟩) := hpre ⟨12, _⟩ (Array.mem_of_getElem? (i := 0) rfl) rfl _ _ rfl rfl
                  exact opw_nil rfl e84 (hK _ _ rfl (Below.refl _ _))
                · rw [want_none rfl] at hwant; cases hwant
              case r14 =>
                refine trule fun b__ w hW hold hpre => ⟨fun hwant K hK => ?_, fun hwant => ?_⟩
                · clear hwant
                  have e85 : b__.eval (.tmp 85) = .pointer (some ⟨q, 0, none⟩) := hpre ⟨13, _⟩ (Array.mem_of_getElem? (i := 0) rfl) rfl _ _ rfl rfl
                  exact opw_faddr rfl e85 (by kernel_rfl) (hK _ _ rfl (Below.refl _ _))
                · rw [want_none rfl] at hwant; cases hwant
              case r15 =>
                refine trule fun b__ w hW hold hpre => ⟨fun hwant K hK => ?_, fun hwant => ?_⟩
                · clear hwant
                  have e86 : b__.eval (.tmp 86) = .pointer (some ⟨q, 2, none⟩) := hpre ⟨14, _⟩ (Array.mem_of_getElem? (i := 0) rfl) rfl _ _ rfl rfl
                  exact opw_cell rfl e86 (by kernel_rfl) (((hS.ext (undrew hW)).box 2 rfl).cell 2) (hK _ _ rfl (Below.refl _ _))
                · rw [want_none rfl] at hwant; cases hwant
              case r16 =>
                refine trule fun b__ w hW hold hpre => ⟨fun hwant K hK => ?_, fun hwant => ?_⟩
                · clear hwant
                  have e8 : b__.eval (.tmp 8) = .int .i64 ((y : Nat) : Int) := (hold 8 (by kernel_rfl)).trans rfl
                  exact opw_move rfl e8 (hK _ _ rfl (Below.refl _ _))
                · rw [want_none rfl] at hwant; cases hwant
              case r17 =>
                refine trule fun b__ w hW hold hpre => ⟨fun hwant K hK => ?_, fun hwant => ?_⟩
                · clear hwant
                  have e87 : b__.eval (.tmp 87) = .slice (some ⟨g6, 0, none⟩) n n := hpre ⟨15, _⟩ (Array.mem_of_getElem? (i := 0) rfl) rfl _ _ rfl rfl
                  have e88 : b__.eval (.tmp 88) = .int .i64 ((y : Nat) : Int) := hpre ⟨16, _⟩ (Array.mem_of_getElem? (i := 1) rfl) rfl _ _ rfl rfl
                  exact opw_iaddr rfl e87 e88 (run_iaddr_lit (m := y) Tryd.underlying67 (by kernel_rfl) (by omega) (by omega)) (hK _ _ rfl (Below.refl _ _))
                · rw [want_none rfl] at hwant; cases hwant
              case r18 =>
                refine trule fun b__ w hW hold hpre => ⟨fun hwant K hK => ?_, fun hwant => ?_⟩
                · clear hwant
                  have e89 : b__.eval (.tmp 89) = .pointer (some ⟨g6, 0 + (y) * 1, none⟩) := hpre ⟨17, _⟩ (Array.mem_of_getElem? (i := 0) rfl) rfl _ _ rfl rfl
                  exact opw_oload1 rfl (e89.trans (by rw [Nat.zero_add, Nat.mul_one])) ((hS.ext (undrew hW)).own 3 rfl) HUY.out Tryd.underlying31 rfl (by kernel_rfl) (hK _ _ rfl (Below.refl _ _))
                · rw [want_none rfl] at hwant; cases hwant
              case r19 =>
                refine trule fun b__ w hW hold hpre => ⟨fun hwant K hK => ?_, fun hwant => ?_⟩
                · clear hwant
                  have e83 : b__.eval (.tmp 83) = .agg #[ub] := hpre ⟨11, _⟩ (Array.mem_of_getElem? (i := 0) rfl) rfl _ _ rfl rfl
                  have e90 : b__.eval (.tmp 90) = .agg #[uy] := hpre ⟨18, _⟩ (Array.mem_of_getElem? (i := 1) rfl) rfl _ _ rfl rfl
                  obtain ⟨D1, hd1⟩ := HU1.out w (undrew hW)
                  obtain ⟨D2, hd2⟩ := HU2.out w (undrew hW)
                  refine opw_call rfl (by kernel_rfl) (by simp [e83, e90]) (or_any (.agg #[ub]) (.agg #[uy]) _ _ w _ _ hd1 hd2) fun v w' h hb => ?_
                  obtain ⟨u, rfl, _⟩ := set_one h
                  exact hK _ w' ⟨u, rfl, h.imp fun z hz _ => Nat.le_trans (undrew hW).size hz⟩ hb
                · rw [want_none rfl] at hwant; cases hwant
              case r20 =>
                refine trule fun b__ w hW hold hpre => ⟨fun hwant K hK => ?_, fun hwant => ?_⟩
                · clear hwant
                  have e8 : b__.eval (.tmp 8) = .int .i64 ((y : Nat) : Int) := (hold 8 (by kernel_rfl)).trans rfl
                  exact opw_move rfl e8 (hK _ _ rfl (Below.refl _ _))
                · rw [want_none rfl] at hwant; cases hwant
              case r21 =>
                refine trule fun b__ w hW hold hpre => ⟨fun hwant K hK => ?_, fun hwant => ?_⟩
                · clear hwant
                  have e91 : (fun (v : Value) (w : World) => ∃ u, v = .agg #[u] ∧ IsSet w (fun z => wr.heap.size ≤ z) (.agg #[u]) (abTo n L b j ||| aboveM n L y)) (b__.eval (.tmp 91)) w := hpre ⟨19, _⟩ (Array.mem_of_getElem? (i := 0) rfl) rfl _ _ rfl rfl
                  have e92 : b__.eval (.tmp 92) = .int .i64 ((y : Nat) : Int) := hpre ⟨20, _⟩ (Array.mem_of_getElem? (i := 1) rfl) rfl _ _ rfl rfl
                  obtain ⟨uo, ho, hso⟩ := e91
                  refine opw_call rfl (by kernel_rfl) (by simp only [List.map_cons, List.map_nil, ho, e92]) (with_any (.agg #[uo]) _ (y : Int) w _ hso) fun v w' h hb => ?_
                  rw [HST.out] at h
                  obtain ⟨u, rfl, h1⟩ := set_one h
                  exact hK _ w' ⟨u, rfl, h1, h.imp fun z hz _ => hz.elim id fun hz => Nat.le_trans (undrew hW).size hz⟩ hb
                · rw [want_none rfl] at hwant; cases hwant
              case r22 =>
                refine trule fun b__ w hW hold hpre => ⟨fun hwant K hK => ?_, fun hwant => ?_⟩
                · clear hwant
                  have e75 : b__.eval (.tmp 75) = .slice (some ⟨g6, 0, none⟩) n n := hpre ⟨3, _⟩ (Array.mem_of_getElem? (i := 0) rfl) rfl _ _ rfl rfl
                  have e76 : b__.eval (.tmp 76) = .int .i64 ((b : Nat) : Int) := hpre ⟨4, _⟩ (Array.mem_of_getElem? (i := 1) rfl) rfl _ _ rfl rfl
                  exact opw_iaddr rfl e75 e76 (run_iaddr_lit (m := b) Tryd.underlying67 (by kernel_rfl) (by omega) (by omega)) (hK _ _ rfl (Below.refl _ _))
                · rw [want_none rfl] at hwant; cases hwant
              case post =>
                intro b__ wz hW hdf hsz hold hT
                have e94 : b__.eval (.tmp 94) = .pointer (some ⟨g6, 0 + (b) * 1, none⟩) := hT 22 _ 94 (by decide) rfl rfl
                have e93 : (fun (v : Value) (w : World) => ∃ u, v = .agg #[u] ∧ u.oneCell' = true ∧ IsSet w (fun z => wr.heap.size ≤ z) (.agg #[u]) (abTo n L b (j + 1))) (b__.eval (.tmp 93)) wz := hT 21 _ 93 (by decide) rfl rfl
                have e72 : b__.eval (.tmp 72) = .pointer (some ⟨q, 0, none⟩) := hT 0 _ 72 (by decide) rfl rfl
                have e73 : b__.eval (.tmp 73) = .pointer (some ⟨q, 0, none⟩) := hT 1 _ 73 (by decide) rfl rfl
                have e74 : b__.eval (.tmp 74) = .pointer (some ⟨q, 2, none⟩) := hT 2 _ 74 (by decide) rfl rfl
                have e75 : b__.eval (.tmp 75) = .slice (some ⟨g6, 0, none⟩) n n := hT 3 _ 75 (by decide) rfl rfl
                have e76 : b__.eval (.tmp 76) = .int .i64 ((b : Nat) : Int) := hT 4 _ 76 (by decide) rfl rfl
                have e77 : b__.eval (.tmp 77) = .pointer (some ⟨q, 0, none⟩) := hT 5 _ 77 (by decide) rfl rfl
                have e78 : b__.eval (.tmp 78) = .pointer (some ⟨q, 0, none⟩) := hT 6 _ 78 (by decide) rfl rfl
                have e79 : b__.eval (.tmp 79) = .pointer (some ⟨q, 2, none⟩) := hT 7 _ 79 (by decide) rfl rfl
                have e80 : b__.eval (.tmp 80) = .slice (some ⟨g6, 0, none⟩) n n := hT 8 _ 80 (by decide) rfl rfl
                have e81 : b__.eval (.tmp 81) = .int .i64 ((b : Nat) : Int) := hT 9 _ 81 (by decide) rfl rfl
                have e82 : b__.eval (.tmp 82) = .pointer (some ⟨g6, 0 + (b) * 1, none⟩) := hT 10 _ 82 (by decide) rfl rfl
                have e83 : b__.eval (.tmp 83) = .agg #[ub] := hT 11 _ 83 (by decide) rfl rfl
                have e84 : b__.eval (.tmp 84) = .pointer (some ⟨q, 0, none⟩) := hT 12 _ 84 (by decide) rfl rfl
                have e85 : b__.eval (.tmp 85) = .pointer (some ⟨q, 0, none⟩) := hT 13 _ 85 (by decide) rfl rfl
                have e86 : b__.eval (.tmp 86) = .pointer (some ⟨q, 2, none⟩) := hT 14 _ 86 (by decide) rfl rfl
                have e87 : b__.eval (.tmp 87) = .slice (some ⟨g6, 0, none⟩) n n := hT 15 _ 87 (by decide) rfl rfl
                have e88 : b__.eval (.tmp 88) = .int .i64 ((y : Nat) : Int) := hT 16 _ 88 (by decide) rfl rfl
                have e89 : b__.eval (.tmp 89) = .pointer (some ⟨g6, 0 + (y) * 1, none⟩) := hT 17 _ 89 (by decide) rfl rfl
                have e90 : b__.eval (.tmp 90) = .agg #[uy] := hT 18 _ 90 (by decide) rfl rfl
                have e91 : (fun (v : Value) (w : World) => ∃ u, v = .agg #[u] ∧ IsSet w (fun z => wr.heap.size ≤ z) (.agg #[u]) (abTo n L b j ||| aboveM n L y)) (b__.eval (.tmp 91)) wz := hT 19 _ 91 (by decide) rfl rfl
                have e92 : b__.eval (.tmp 92) = .int .i64 ((y : Nat) : Int) := hT 20 _ 92 (by decide) rfl rfl
                obtain ⟨vs, hvs, hb⟩ := frame_of hdf hsz hold
                replace e94 : vs 94 = .pointer (some ⟨g6, 0 + (b) * 1, none⟩) := (hvs 94).symm.trans e94
                replace e93 := (hvs 93) ▸ e93
                replace e72 : vs 72 = .pointer (some ⟨q, 0, none⟩) := (hvs 72).symm.trans e72
                replace e73 : vs 73 = .pointer (some ⟨q, 0, none⟩) := (hvs 73).symm.trans e73
                replace e74 : vs 74 = .pointer (some ⟨q, 2, none⟩) := (hvs 74).symm.trans e74
                replace e75 : vs 75 = .slice (some ⟨g6, 0, none⟩) n n := (hvs 75).symm.trans e75
                replace e76 : vs 76 = .int .i64 ((b : Nat) : Int) := (hvs 76).symm.trans e76
                replace e77 : vs 77 = .pointer (some ⟨q, 0, none⟩) := (hvs 77).symm.trans e77
                replace e78 : vs 78 = .pointer (some ⟨q, 0, none⟩) := (hvs 78).symm.trans e78
                replace e79 : vs 79 = .pointer (some ⟨q, 2, none⟩) := (hvs 79).symm.trans e79
                replace e80 : vs 80 = .slice (some ⟨g6, 0, none⟩) n n := (hvs 80).symm.trans e80
                replace e81 : vs 81 = .int .i64 ((b : Nat) : Int) := (hvs 81).symm.trans e81
                replace e82 : vs 82 = .pointer (some ⟨g6, 0 + (b) * 1, none⟩) := (hvs 82).symm.trans e82
                replace e83 : vs 83 = .agg #[ub] := (hvs 83).symm.trans e83
                replace e84 : vs 84 = .pointer (some ⟨q, 0, none⟩) := (hvs 84).symm.trans e84
                replace e85 : vs 85 = .pointer (some ⟨q, 0, none⟩) := (hvs 85).symm.trans e85
                replace e86 : vs 86 = .pointer (some ⟨q, 2, none⟩) := (hvs 86).symm.trans e86
                replace e87 : vs 87 = .slice (some ⟨g6, 0, none⟩) n n := (hvs 87).symm.trans e87
                replace e88 : vs 88 = .int .i64 ((y : Nat) : Int) := (hvs 88).symm.trans e88
                replace e89 : vs 89 = .pointer (some ⟨g6, 0 + (y) * 1, none⟩) := (hvs 89).symm.trans e89
                replace e90 : vs 90 = .agg #[uy] := (hvs 90).symm.trans e90
                replace e91 := (hvs 91) ▸ e91
                replace e92 : vs 92 = .int .i64 ((y : Nat) : Int) := (hvs 92).symm.trans e92
                subst hb
                clear hvs hold hT hdf hsz
                simp only [setAll, Act.put, List.setIfInBounds_toArray, List.set_cons_zero, List.set_cons_succ, List.getElem_toArray, List.getElem_cons_succ, List.getElem_cons_zero]
                (intro o_ ho_; simp only [List.getElem?_toArray, List.getElem?_cons_succ, List.getElem?_cons_zero, Option.some.injEq] at ho_; subst ho_)
                obtain ⟨un, e93, hu1, hun⟩ := e93
                have hS1 := hS.ret hW (stable_set (v := .agg #[un]) (N := abTo n L b (j + 1))) hun
                refine opw_ostore1 rfl (e94.trans (by rw [Nat.zero_add, Nat.mul_one])) e93 (hS1.own 3 rfl) (by omega) hu1 (by kernel_rfl) fun w4 h1 hU => ?_
                replace hS := (hS1.upd 3 rfl (.own (.slice (some ⟨g6, 0, none⟩) n n) 31 1 n (xa'.set b un)) (by simpa [Fact.blk, Value.ownBlock] using upd_gb hU) h1 fun _ e => .inl e)
                clear hS1
                simp only [TailWp]
                simp only [Act.put, List.setIfInBounds_toArray, List.set_cons_zero, List.set_cons_succ]
                clear e93 e94 h1 hU hW hun
                go_wp2_with fail
                refine ⟨⟨j + 1, xa'.set b un, hlj, by go_num, Lib.hid (by rw [List.length_set]; exact HXA.out), ?_⟩, by simp [intOf]; omega⟩
                refine hS.mono (KS.and (stable_setsX.and stable_setsX)) fun D w h => ⟨h.1.1, (h.1.2.1.set HXA.out h.2).congr fun k _ => ?_, h.1.2.2⟩
                by_cases e : k = b
                · simp [e]
                · simp [e]
            · obtain rfl : j = (dirs L b).length := by omega
              have HTK := Lib.hid (show S.take (i + 1) = S.take i ++ [b] by rw [List.take_add_one, HGi.out]; rfl)
              obtain ⟨ub, hub, hset⟩ := hS.ro.2.1 b hb
              dsimp only at hset
              rw [if_pos rfl, abTo_full] at hset
              obtain ⟨A1, c1, ws, hube, hcn, hvN, _, _, hsl⟩ := hset.parts
              injection hube with hube
              injection hube with hube
              injection hube with hube
              subst hube
              have HUB := Lib.hid hub
              have HSL := Lib.hid hsl
              have HCN := Lib.hid hcn
              have HVN := Lib.hid hvN
              have HAll : Hid (∀ w, Below wr.heap.size wr w → Calls Tryd.prog 44 #[.agg #[.slice A1 ws.length c1]] w (Ret (fun x w' => ∃ Bs, x = .func (.func 63) #[] #[.pointer (some ⟨Bs, 0, none⟩)] ∧ w.heap.size ≤ Bs ∧ Box w' Bs 31 #[.slice A1 ws.length c1]) w)) := Lib.hid fun w hw => by
                obtain ⟨u, h1, h2⟩ := (hS.ext hw).ro.2.1 b hb
                rw [HUB.out] at h1; injection h1 with h1; subst h1
                refine (sall_any _ _ _ w h2).mono ?_
                rintro e w' ⟨v, rfl, ⟨Bs, A2, c2, ws2, rfl, e1, _, _, _, hBs, hX⟩, hb2⟩
                injection e1 with e1
                rw [← e1] at hX
                exact ⟨_, rfl, ⟨Bs, rfl, hBs, hX⟩, hb2⟩
              clear hub hset hsl hcn hvN hlj hj
              go_wp2_with (first | ((with_reducible show wpList _ _ _ (⟨_, .binOp _ _ _ _ _, _, _, _, _⟩ :: _) _ _); (first | (refine st_lss rfl _ _ _ _ rfl _ _ _ rfl rfl (fun h_ => ?_) (fun h_ => ?_)) | (refine st_leq rfl _ _ _ _ rfl _ _ _ rfl rfl (fun h_ => ?_) (fun h_ => ?_)) | (refine st_gtr rfl _ _ _ _ rfl _ _ _ rfl rfl (fun h_ => ?_) (fun h_ => ?_)) | (refine st_geq rfl _ _ _ _ rfl _ _ _ rfl rfl (fun h_ => ?_) (fun h_ => ?_)) | (refine st_eql rfl _ _ _ _ rfl _ _ _ rfl rfl (fun h_ => ?_) (fun h_ => ?_)) | (refine st_neq rfl _ _ _ _ rfl _ _ _ rfl rfl (fun h_ => ?_) (fun h_ => ?_))) <;> go_prune))
              refine wp_region_typed (fun i__ v w => match i__ with
                | 0 => v = .pointer (some ⟨q, 0, none⟩)
                | 1 => v = .pointer (some ⟨q, 0, none⟩)
                | 2 => v = .pointer (some ⟨q, 2, none⟩)
                | 3 => v = .slice (some ⟨g6, 0, none⟩) n n
                | 4 => v = .int .i64 ((b : Nat) : Int)
                | 5 => v = .pointer (some ⟨g6, 0 + (b) * 1, none⟩)
                | 6 => v = .agg #[.slice A1 ws.length c1]
                | 7 => ∃ Bs, v = .func (.func 63) #[] #[.pointer (some ⟨Bs, 0, none⟩)] ∧ wr.heap.size ≤ Bs ∧ Box w Bs 31 #[.slice A1 ws.length c1]
                | _ => True) (by kernel_rfl) (by kernel_rfl) ?mono ⟨?r0, ?r1, ?r2, ?r3, ?r4, ?r5, ?r6, ?r7, trivial⟩ ?post
              case mono =>
                intro i v w w' h hb
                match i, h with
                | 0, h => exact h
                | 1, h => exact h
                | 2, h => exact h
                | 3, h => exact h
                | 4, h => exact h
                | 5, h => exact h
                | 6, h => exact h
                | 7, h => exact ⟨_, h.choose_spec.1, h.choose_spec.2.1, h.choose_spec.2.2.ext hb⟩
                | _ + 8, h => trivial
              case r0 =>
                refine trule fun b__ w hW hold hpre => ⟨fun hwant K hK => ?_, fun hwant => ?_⟩
                · clear hwant
                  have e1 : b__.eval (.tmp 1) = .pointer (some ⟨g1, 0, none⟩) := (hold 1 (by kernel_rfl)).trans rfl
                  exact opw_cell rfl e1 (by kernel_rfl) (((hS.ext (undrew hW)).box 5 rfl).cell 0) (hK _ _ rfl (Below.refl _ _))
                · rw [want_none rfl] at hwant; cases hwant
              case r1 =>
                refine trule fun b__ w hW hold hpre => ⟨fun hwant K hK => ?_, fun hwant => ?_⟩
                · clear hwant
                  have e96 : b__.eval (.tmp 96) = .pointer (some ⟨q, 0, none⟩) := hpre ⟨0, _⟩ (Array.mem_of_getElem? (i := 0) rfl) rfl _ _ rfl rfl
                  exact opw_nil rfl e96 (hK _ _ rfl (Below.refl _ _))
                · rw [want_none rfl] at hwant; cases hwant
              case r2 =>
                refine trule fun b__ w hW hold hpre => ⟨fun hwant K hK => ?_, fun hwant => ?_⟩
                · clear hwant
                  have e97 : b__.eval (.tmp 97) = .pointer (some ⟨q, 0, none⟩) := hpre ⟨1, _⟩ (Array.mem_of_getElem? (i := 0) rfl) rfl _ _ rfl rfl
                  exact opw_faddr rfl e97 (by kernel_rfl) (hK _ _ rfl (Below.refl _ _))
                · rw [want_none rfl] at hwant; cases hwant
              case r3 =>
                refine trule fun b__ w hW hold hpre => ⟨fun hwant K hK => ?_, fun hwant => ?_⟩
                · clear hwant
                  have e98 : b__.eval (.tmp 98) = .pointer (some ⟨q, 2, none⟩) := hpre ⟨2, _⟩ (Array.mem_of_getElem? (i := 0) rfl) rfl _ _ rfl rfl
                  exact opw_cell rfl e98 (by kernel_rfl) (((hS.ext (undrew hW)).box 2 rfl).cell 2) (hK _ _ rfl (Below.refl _ _))
                · rw [want_none rfl] at hwant; cases hwant
              case r4 =>
                refine trule fun b__ w hW hold hpre => ⟨fun hwant K hK => ?_, fun hwant => ?_⟩
                · clear hwant
                  have e6 : b__.eval (.tmp 6) = .pointer (some ⟨g6b, 0, none⟩) := (hold 6 (by kernel_rfl)).trans rfl
                  exact opw_cell rfl e6 (by kernel_rfl) (((hS.ext (undrew hW)).box 0 rfl).cell 0) (hK _ _ rfl (Below.refl _ _))
                · rw [want_none rfl] at hwant; cases hwant
              case r5 =>
                refine trule fun b__ w hW hold hpre => ⟨fun hwant K hK => ?_, fun hwant => ?_⟩
                · clear hwant
                  have e99 : b__.eval (.tmp 99) = .slice (some ⟨g6, 0, none⟩) n n := hpre ⟨3, _⟩ (Array.mem_of_getElem? (i := 0) rfl) rfl _ _ rfl rfl
                  have e100 : b__.eval (.tmp 100) = .int .i64 ((b : Nat) : Int) := hpre ⟨4, _⟩ (Array.mem_of_getElem? (i := 1) rfl) rfl _ _ rfl rfl
                  exact opw_iaddr rfl e99 e100 (run_iaddr_lit (m := b) Tryd.underlying67 (by kernel_rfl) (by omega) (by omega)) (hK _ _ rfl (Below.refl _ _))
                · rw [want_none rfl] at hwant; cases hwant
              case r6 =>
                refine trule fun b__ w hW hold hpre => ⟨fun hwant K hK => ?_, fun hwant => ?_⟩
                · clear hwant
                  have e101 : b__.eval (.tmp 101) = .pointer (some ⟨g6, 0 + (b) * 1, none⟩) := hpre ⟨5, _⟩ (Array.mem_of_getElem? (i := 0) rfl) rfl _ _ rfl rfl
                  exact opw_oload1 rfl (e101.trans (by rw [Nat.zero_add, Nat.mul_one])) ((hS.ext (undrew hW)).own 3 rfl) HUB.out Tryd.underlying31 rfl (by kernel_rfl) (hK _ _ rfl (Below.refl _ _))
                · rw [want_none rfl] at hwant; cases hwant
              case r7 =>
                refine trule fun b__ w hW hold hpre => ⟨fun hwant K hK => ?_, fun hwant => ?_⟩
                · clear hwant
                  have e102 : b__.eval (.tmp 102) = .agg #[.slice A1 ws.length c1] := hpre ⟨6, _⟩ (Array.mem_of_getElem? (i := 0) rfl) rfl _ _ rfl rfl
                  refine opw_call rfl (by kernel_rfl) (by simp [e102]) (HAll.out w (undrew hW)) fun v w' h hb => ?_
                  obtain ⟨Bs, h1, h2, h3⟩ := h
                  exact hK v w' ⟨Bs, h1, Nat.le_trans (undrew hW).size h2, h3⟩ hb
                · rw [want_none rfl] at hwant; cases hwant
              case post =>
                intro b__ wz hW hdf hsz hold hT
                have e96 : b__.eval (.tmp 96) = .pointer (some ⟨q, 0, none⟩) := hT 0 _ 96 rfl rfl
                have e97 : b__.eval (.tmp 97) = .pointer (some ⟨q, 0, none⟩) := hT 1 _ 97 rfl rfl
                have e98 : b__.eval (.tmp 98) = .pointer (some ⟨q, 2, none⟩) := hT 2 _ 98 rfl rfl
                have e99 : b__.eval (.tmp 99) = .slice (some ⟨g6, 0, none⟩) n n := hT 3 _ 99 rfl rfl
                have e100 : b__.eval (.tmp 100) = .int .i64 ((b : Nat) : Int) := hT 4 _ 100 rfl rfl
                have e101 : b__.eval (.tmp 101) = .pointer (some ⟨g6, 0 + (b) * 1, none⟩) := hT 5 _ 101 rfl rfl
                have e102 : b__.eval (.tmp 102) = .agg #[.slice A1 ws.length c1] := hT 6 _ 102 rfl rfl
                have e103 : (fun (v : Value) (w : World) => ∃ Bs, v = .func (.func 63) #[] #[.pointer (some ⟨Bs, 0, none⟩)] ∧ wr.heap.size ≤ Bs ∧ Box w Bs 31 #[.slice A1 ws.length c1]) (b__.eval (.tmp 103)) wz := hT 7 _ 103 rfl rfl
                obtain ⟨vs, hvs, hb⟩ := frame_of hdf hsz hold
                replace e96 : vs 96 = .pointer (some ⟨q, 0, none⟩) := (hvs 96).symm.trans e96
                replace e97 : vs 97 = .pointer (some ⟨q, 0, none⟩) := (hvs 97).symm.trans e97
                replace e98 : vs 98 = .pointer (some ⟨q, 2, none⟩) := (hvs 98).symm.trans e98
                replace e99 : vs 99 = .slice (some ⟨g6, 0, none⟩) n n := (hvs 99).symm.trans e99
                replace e100 : vs 100 = .int .i64 ((b : Nat) : Int) := (hvs 100).symm.trans e100
                replace e101 : vs 101 = .pointer (some ⟨g6, 0 + (b) * 1, none⟩) := (hvs 101).symm.trans e101
                replace e102 : vs 102 = .agg #[.slice A1 ws.length c1] := (hvs 102).symm.trans e102
                replace e103 := (hvs 103) ▸ e103
                subst hb
                clear hvs hold hT hdf hsz
                simp only [setAll, Act.put, List.setIfInBounds_toArray, List.set_cons_zero, List.set_cons_succ, List.getElem_toArray, List.getElem_cons_succ, List.getElem_cons_zero]
                obtain ⟨Bs, e103, hBs, hX⟩ := e103
                have hkt := kt _ _ hS.ro.1
                replace hS := hS.good hW HSL.out hkt.1 hkt.2 hBs hX
                obtain ⟨KK, k1, k2, k3, k4, KKS, hS⟩ : ∃ KK : (Nat → Prop) → World → Prop, (∀ D w, KK D w → K D w) ∧ (∀ D w, KK D w → SetsX xa' n (fun k => if k ∈ S.take (i + 1) then aboveM n L k else 0) D w) ∧ (∀ D w, KK D w → SetsX xb n (blP n L (S.take i)) D w) ∧ (∀ D w, KK D w → Good Bs A1 c1 ws w) ∧ Stable KK ∧ St w0 wz (.box g6b 3 #[.int .i64 (b : Nat)] :: relF q n (.slice A L.length c) (.slice (some ⟨gs, 0, none⟩) S.length cs) (.slice (some ⟨g6, 0, none⟩) n n) (.slice (some ⟨g11, 0, none⟩) n n) g1 g2 S ((List.range n).map dv) xa' xb (famF dv (dirs L) n ++ (F0 ++ marksF ds))) KK :=
                  ⟨_, fun _ _ h => h.1.1, fun _ _ h => h.1.2.1.congr fun k _ => by
                    rw [HTK.out]
                    by_cases e : k = b
                    · subst e; simp [abTo_full]
                    · simp [e], fun _ _ h => h.1.2.2, fun _ _ h => h.2.1, hS.stable, hS⟩
                have HLow : Hid (∀ xb' : List Value, ∀ f ∈ (Fact.box g6b 3 #[.int .i64 (b : Nat)] :: relF q n (.slice A L.length c) (.slice (some ⟨gs, 0, none⟩) S.length cs) (.slice (some ⟨g6, 0, none⟩) n n) (.slice (some ⟨g11, 0, none⟩) n n) g1 g2 S ((List.range n).map dv) xa' xb' (famF dv (dirs L) n ++ (F0 ++ marksF ds))), f.low wz.heap.size) := Lib.hid fun xb' f hf => by
                  have h0 := low_of hS
                  rcases List.mem_cons.1 hf with rfl | hf
                  · exact .inl rfl
                  unfold relF at hf
                  rcases List.mem_append.1 hf with hf | hf
                  · simp only [List.mem_cons, List.not_mem_nil, or_false] at hf
                    rcases hf with rfl | rfl | rfl | rfl | rfl | rfl <;> exact .inl rfl
                  · exact h0 f (List.mem_cons_of_mem _ (by unfold relF; exact List.mem_append_right _ hf))
                have hsz := hS.size
                clear hW hX hkt
                rw [e103]
                clear e103
                go_wp2_with fail
                refine (wpIn_wide (n := 6)).1 ?_
                refine wpIn_act fun act hact => ?_
                refine range_allB hS HCN.out.1 HCN.out.2.2 k4 (by rw [hact]; rfl) rfl
                  (fun pre F' K' => ∃ xb', xb'.length = n ∧ F' = .box g6b 3 #[.int .i64 (b : Nat)] :: relF q n (.slice A L.length c) (.slice (some ⟨gs, 0, none⟩) S.length cs) (.slice (some ⟨g6, 0, none⟩) n n) (.slice (some ⟨g11, 0, none⟩) n n) g1 g2 S ((List.range n).map dv) xa' xb' (famF dv (dirs L) n ++ (F0 ++ marksF ds)) ∧ Stable K' ∧ ∀ D w, K' D w → KK D w ∧ SetsX xb' n (fun k => if ((k : Nat) : Int) ∈ pre then blP n L (S.take i) k ||| 2 ^ b else blP n L (S.take i) k) D w)
                  (fun _ _ _ _ => False) (fun s F K' h D w hk => by obtain ⟨_, _, _, _, h4⟩ := h; exact (h4 D w hk).1) ?hr (fun _ _ _ _ h => h.elim) ⟨xb, hxb, rfl, KKS, fun D w h => ⟨h, by simpa using k3 D w h⟩⟩
                  (fun x => { tmps := (act.tmps.setIfInBounds 104 (.int .i64 x)).setIfInBounds 9 (.int .i64 x), defers := [] }) ?assign ?body ?done (fun _ _ _ _ _ _ _ _ h _ _ => h.elim)
                case hr =>
                  rintro s F K' ⟨xb', h1, rfl, _⟩ f hf
                  exact HLow.out xb' f hf
                case assign =>
                  intro l x W K hK
                  subst hact
                  rw [zip_one]
                  refine wpIn_region_lit ?_
                  refine listIn_of (by intro _ _ h; exact h) _ _ _ (by rfl) _ _ ?_
                  refine wpList_plain rfl fun _ hK' => opw_assign (v := .int .i64 x) rfl (by rfl) (hK' _ _ ?_)
                  exact wpList_nil hK
                case body =>
                  rintro l pre x hx W F' Xo K' ⟨xb', hxl, rfl, hKs, hk'⟩ hS hlt
                  subst hact
                  obtain ⟨xk, rfl⟩ := memL_nat hx
                  have htc : TC L xk b := by
                    have h0 := (mem_memL HCN.out.1).1 hx
                    rw [← HVN.out] at h0; exact (tb_above HL.out).1 h0
                  have hxk := (htc.lt HL.out).1
                  obtain ⟨DD, hDD, hro⟩ := hS.dom
                  obtain ⟨ub, hub, hset⟩ := (hk' _ _ hro.1).2 xk hxk
                  dsimp only at hset
                  have HW := Lib.hid (show withN (if ((xk : Nat) : Int) ∈ pre then blP n L (S.take i) xk ||| 2 ^ b else blP n L (S.take i) xk) (b : Int) = blP n L (S.take i) xk ||| 2 ^ b by
                    rw [withN, if_pos (by omega), Int.toNat_natCast]
                    split
                    · rw [Nat.or_assoc, Nat.or_self]
                    · rfl)
                  generalize (if ((xk : Nat) : Int) ∈ pre then blP n L (S.take i) xk ||| 2 ^ b else blP n L (S.take i) xk) = N0 at *
                  have HUB2 := Lib.hid hub
                  have HSET := Lib.hid hset
                  have HDD := Lib.hid hDD
                  have HKP := Lib.hid hk'
                  have HXL := Lib.hid hxl
                  have hWs : W.heap.size ≤ W.heap.size := Nat.le_refl _
                  clear hub hset hx htc hDD hro hk' hxl
                  simp only [Act.put, List.setIfInBounds_toArray, List.set_cons_zero, List.set_cons_succ]
                  refine wpIn_block ?_
                  refine wpIn_region_of (by kernel_rfl) (by intro _ _ h; exact h) (by rfl) ?_
                  refine any_region_tail (fun i__ v w => match i__ with
                    | 0 => v = .pointer (some ⟨q, 0, none⟩)
                    | 1 => v = .pointer (some ⟨q, 0, none⟩)
                    | 2 => v = .pointer (some ⟨q, 3, none⟩)
                    | 3 => v = .slice (some ⟨g11, 0, none⟩) n n
                    | 4 => v = .int .i64 ((xk : Nat) : Int)
                    | 5 => v = .pointer (some ⟨q, 0, none⟩)
                    | 6 => v = .pointer (some ⟨q, 0, none⟩)
                    | 7 => v = .pointer (some ⟨q, 3, none⟩)
                    | 8 => v = .slice (some ⟨g11, 0, none⟩) n n
                    | 9 => v = .int .i64 ((xk : Nat) : Int)
                    | 10 => v = .pointer (some ⟨g11, 0 + (xk) * 1, none⟩)
                    | 11 => v = .agg #[ub]
                    | 12 => v = .int .i64 ((b : Nat) : Int)
                    | 13 => ∃ u, v = .agg #[u] ∧ u.oneCell' = true ∧ IsSet w (fun z => DD z ∨ W.heap.size ≤ z) (.agg #[u]) (blP n L (S.take i) xk ||| 2 ^ b)
                    | 14 => v = .pointer (some ⟨g11, 0 + (xk) * 1, none⟩)
                    | 15 => True
                    | _ => True) 15 [] (by kernel_rfl) (by kernel_rfl) (by kernel_rfl) (by kernel_rfl) ?mono ⟨.inr ?r0, .inr ?r1, .inr ?r2, .inr ?r3, .inr ?r4, .inr ?r5, .inr ?r6, .inr ?r7, .inr ?r8, .inr ?r9, .inr ?r10, .inr ?r11, .inr ?r12, .inr ?r13, .inr ?r14, .inl (by decide), trivial⟩ ?post
                  case mono =>
                    intro i v w w' h hb
                    match i, h with
                    | 0, h => exact h
                    | 1, h => exact h
                    | 2, h => exact h
                    | 3, h => exact h
                    | 4, h => exact h
                    | 5, h => exact h
                    | 6, h => exact h
                    | 7, h => exact h
                    | 8, h => exact h
                    | 9, h => exact h
                    | 10, h => exact h
                    | 11, h => exact h
                    | 12, h => exact h
                    | 13, h => exact ⟨_, h.choose_spec.1, h.choose_spec.2.1, h.choose_spec.2.2.ext hb⟩
                    | 14, h => exact h
                    | 15, h => exact h
                    | _ + 16, h => trivial
                  case r0 =>
                    refine trule fun b__ w hW hold hpre => ⟨fun hwant K hK => ?_, fun hwant => ?_⟩
                    · clear hwant
                      have e1 : b__.eval (.tmp 1) = .pointer (some ⟨g1, 0, none⟩) := (hold 1 (by kernel_rfl)).trans rfl
                      exact opw_cell rfl e1 (by kernel_rfl) (((hS.ext (undrew hW)).box 5 rfl).cell 0) (hK _ _ rfl (Below.refl _ _))
                    · rw [want_none rfl] at hwant; cases hwant
                  case r1 =>
                    refine trule fun b__ w hW hold hpre => ⟨fun hwant K hK => ?_, fun hwant => ?_⟩
                    · clear hwant
                      have e105 : b__.eval (.tmp 105) = .pointer (some ⟨q, 0, none⟩) := hpre ⟨0, _⟩ (Array.mem_of_getElem? (i := 0) rfl) rfl _ _ rfl rfl
                      exact opw_nil rfl e105 (hK _ _ rfl (Below.refl _ _))
                    · rw [want_none rfl] at hwant; cases hwant
                  case r2 =>
                    refine trule fun b__ w hW hold hpre => ⟨fun hwant K hK => ?_, fun hwant => ?_⟩
                    · clear hwant
                      have e106 : b__.eval (.tmp 106) = .pointer (some ⟨q, 0, none⟩) := hpre ⟨1, _⟩ (Array.mem_of_getElem? (i := 0) rfl) rfl _ _ rfl rfl
                      exact opw_faddr rfl e106 (by kernel_rfl) (hK _ _ rfl (Below.refl _ _))
                    · rw [want_none rfl] at hwant; cases hwant
                  case r3 =>
                    refine trule fun b__ w hW hold hpre => ⟨fun hwant K hK => ?_, fun hwant => ?_⟩
                    · clear hwant
                      have e107 : b__.eval (.tmp 107) = .pointer (some ⟨q, 3, none⟩) := hpre ⟨2, _⟩ (Array.mem_of_getElem? (i := 0) rfl) rfl _ _ rfl rfl
                      exact opw_cell rfl e107 (by kernel_rfl) (((hS.ext (undrew hW)).box 2 rfl).cell 3) (hK _ _ rfl (Below.refl _ _))
                    · rw [want_none rfl] at hwant; cases hwant
                  case r4 =>
                    refine trule fun b__ w hW hold hpre => ⟨fun hwant K hK => ?_, fun hwant => ?_⟩
                    · clear hwant
                      have e9 : b__.eval (.tmp 9) = .int .i64 ((xk : Nat) : Int) := (hold 9 (by kernel_rfl)).trans rfl
                      exact opw_move rfl e9 (hK _ _ rfl (Below.refl _ _))
                    · rw [want_none rfl] at hwant; cases hwant
                  case r5 =>
                    refine trule fun b__ w hW hold hpre => ⟨fun hwant K hK => ?_, fun hwant => ?_⟩
                    · clear hwant
                      have e1 : b__.eval (.tmp 1) = .pointer (some ⟨g1, 0, none⟩) := (hold 1 (by kernel_rfl)).trans rfl
                      exact opw_cell rfl e1 (by kernel_rfl) (((hS.ext (undrew hW)).box 5 rfl).cell 0) (hK _ _ rfl (Below.refl _ _))
                    · rw [want_none rfl] at hwant; cases hwant
                  case r6 =>
                    refine trule fun b__ w hW hold hpre => ⟨fun hwant K hK => ?_, fun hwant => ?_⟩
                    · clear hwant
                      have e110 : b__.eval (.tmp 110) = .pointer (some ⟨q, 0, none⟩) := hpre ⟨5, _⟩ (Array.mem_of_getElem? (i := 0) rfl) rfl _ _ rfl rfl
                      exact opw_nil rfl e110 (hK _ _ rfl (Below.refl _ _))
                    · rw [want_none rfl] at hwant; cases hwant
                  case r7 =>
                    refine trule fun b__ w hW hold hpre => ⟨fun hwant K hK => ?_, fun hwant => ?_⟩
                    · clear hwant
                      have e111 : b__.eval (.tmp 111) = .pointer (some ⟨q, 0, none⟩) := hpre ⟨6, _⟩ (Array.mem_of_getElem? (i := 0) rfl) rfl _ _ rfl rfl
                      exact opw_faddr rfl e111 (by kernel_rfl) (hK _ _ rfl (Below.refl _ _))
                    · rw [want_none rfl] at hwant; cases hwant
                  case r8 =>
                    refine trule fun b__ w hW hold hpre => ⟨fun hwant K hK => ?_, fun hwant => ?_⟩
                    · clear hwant
                      have e112 : b__.eval (.tmp 112) = .pointer (some ⟨q, 3, none⟩) := hpre ⟨7, _⟩ (Array.mem_of_getElem? (i := 0) rfl) rfl _ _ rfl rfl
                      exact opw_cell rfl e112 (by kernel_rfl) (((hS.ext (undrew hW)).box 2 rfl).cell 3) (hK _ _ rfl (Below.refl _ _))
                    · rw [want_none rfl] at hwant; cases hwant
                  case r9 =>
                    refine trule fun b__ w hW hold hpre => ⟨fun hwant K hK => ?_, fun hwant => ?_⟩
                    · clear hwant
                      have e9 : b__.eval (.tmp 9) = .int .i64 ((xk : Nat) : Int) := (hold 9 (by kernel_rfl)).trans rfl
                      exact opw_move rfl e9 (hK _ _ rfl (Below.refl _ _))
                    · rw [want_none rfl] at hwant; cases hwant
                  case r10 =>
                    refine trule fun b__ w hW hold hpre => ⟨fun hwant K hK => ?_, fun hwant => ?_⟩
                    · clear hwant
                      have e113 : b__.eval (.tmp 113) = .slice (some ⟨g11, 0, none⟩) n n := hpre ⟨8, _⟩ (Array.mem_of_getElem? (i := 0) rfl) rfl _ _ rfl rfl
                      have e114 : b__.eval (.tmp 114) = .int .i64 ((xk : Nat) : Int) := hpre ⟨9, _⟩ (Array.mem_of_getElem? (i := 1) rfl) rfl _ _ rfl rfl
                      exact opw_iaddr rfl e113 e114 (run_iaddr_lit (m := xk) Tryd.underlying67 (by kernel_rfl) (by omega) (by omega)) (hK _ _ rfl (Below.refl _ _))
                    · rw [want_none rfl] at hwant; cases hwant
                  case r11 =>
                    refine trule fun b__ w hW hold hpre => ⟨fun hwant K hK => ?_, fun hwant => ?_⟩
                    · clear hwant
                      have e115 : b__.eval (.tmp 115) = .pointer (some ⟨g11, 0 + (xk) * 1, none⟩) := hpre ⟨10, _⟩ (Array.mem_of_getElem? (i := 0) rfl) rfl _ _ rfl rfl
                      exact opw_oload1 rfl (e115.trans (by rw [Nat.zero_add, Nat.mul_one])) ((hS.ext (undrew hW)).own 4 rfl) HUB2.out Tryd.underlying31 rfl (by kernel_rfl) (hK _ _ rfl (Below.refl _ _))
                    · rw [want_none rfl] at hwant; cases hwant
                  case r12 =>
                    refine trule fun b__ w hW hold hpre => ⟨fun hwant K hK => ?_, fun hwant => ?_⟩
                    · clear hwant
                      have e6 : b__.eval (.tmp 6) = .pointer (some ⟨g6b, 0, none⟩) := (hold 6 (by kernel_rfl)).trans rfl
                      exact opw_cell rfl e6 (by kernel_rfl) (((hS.ext (undrew hW)).box 0 rfl).cell 0) (hK _ _ rfl (Below.refl _ _))
                    · rw [want_none rfl] at hwant; cases hwant
                  case r13 =>
                    refine trule fun b__ w hW hold hpre => ⟨fun hwant K hK => ?_, fun hwant => ?_⟩
                    · clear hwant
                      have e116 : b__.eval (.tmp 116) = .agg #[ub] := hpre ⟨11, _⟩ (Array.mem_of_getElem? (i := 0) rfl) rfl _ _ rfl rfl
                      have e117 : b__.eval (.tmp 117) = .int .i64 ((b : Nat) : Int) := hpre ⟨12, _⟩ (Array.mem_of_getElem? (i := 1) rfl) rfl _ _ rfl rfl
                      refine opw_call rfl (by kernel_rfl) (by simp only [List.map_cons, List.map_nil, e116, e117]) (with_any (.agg #[ub]) N0 (b : Int) w _ (HSET.out.ext (undrew hW))) fun v w' h hb => ?_
                      rw [HW.out] at h
                      obtain ⟨u, rfl, h1⟩ := set_one h
                      exact hK _ w' ⟨u, rfl, h1, h.imp fun z hz _ => hz.imp id fun hz => Nat.le_trans (undrew hW).size hz⟩ hb
                    · rw [want_none rfl] at hwant; cases hwant
                  case r14 =>
                    refine trule fun b__ w hW hold hpre => ⟨fun hwant K hK => ?_, fun hwant => ?_⟩
                    · clear hwant
                      have e108 : b__.eval (.tmp 108) = .slice (some ⟨g11, 0, none⟩) n n := hpre ⟨3, _⟩ (Array.mem_of_getElem? (i := 0) rfl) rfl _ _ rfl rfl
                      have e109 : b__.eval (.tmp 109) = .int .i64 ((xk : Nat) : Int) := hpre ⟨4, _⟩ (Array.mem_of_getElem? (i := 1) rfl) rfl _ _ rfl rfl
                      exact opw_iaddr rfl e108 e109 (run_iaddr_lit (m := xk) Tryd.underlying67 (by kernel_rfl) (by omega) (by omega)) (hK _ _ rfl (Below.refl _ _))
                    · rw [want_none rfl] at hwant; cases hwant
                  case post =>
                    intro b__ wz hW hdf hsz hold hT
                    have e119 : b__.eval (.tmp 119) = .pointer (some ⟨g11, 0 + (xk) * 1, none⟩) := hT 14 _ 119 (by decide) rfl rfl
                    have e118 : (fun (v : Value) (w : World) => ∃ u, v = .agg #[u] ∧ u.oneCell' = true ∧ IsSet w (fun z => DD z ∨ W.heap.size ≤ z) (.agg #[u]) (blP n L (S.take i) xk ||| 2 ^ b)) (b__.eval (.tmp 118)) wz := hT 13 _ 118 (by decide) rfl rfl
                    have e105 : b__.eval (.tmp 105) = .pointer (some ⟨q, 0, none⟩) := hT 0 _ 105 (by decide) rfl rfl
                    have e106 : b__.eval (.tmp 106) = .pointer (some ⟨q, 0, none⟩) := hT 1 _ 106 (by decide) rfl rfl
                    have e107 : b__.eval (.tmp 107) = .pointer (some ⟨q, 3, none⟩) := hT 2 _ 107 (by decide) rfl rfl
                    have e108 : b__.eval (.tmp 108) = .slice (some ⟨g11, 0, none⟩) n n := hT 3 _ 108 (by decide) rfl rfl
                    have e109 : b__.eval (.tmp 109) = .int .i64 ((xk : Nat) : Int) := hT 4 _ 109 (by decide) rfl rfl
                    have e110 : b__.eval (.tmp 110) = .pointer (some ⟨q, 0, none⟩) := hT 5 _ 110 (by decide) rfl rfl
                    have e111 : b__.eval (.tmp 111) = .pointer (some ⟨q, 0, none⟩) := hT 6 _ 111 (by decide) rfl rfl
                    have e112 : b__.eval (.tmp 112) = .pointer (some ⟨q, 3, none⟩) := hT 7 _ 112 (by decide) rfl rfl
                    have e113 : b__.eval (.tmp 113) = .slice (some ⟨g11, 0, none⟩) n n := hT 8 _ 113 (by decide) rfl rfl
                    have e114 : b__.eval (.tmp 114) = .int .i64 ((xk : Nat) : Int) := hT 9 _ 114 (by decide) rfl rfl
                    have e115 : b__.eval (.tmp 115) = .pointer (some ⟨g11, 0 + (xk) * 1, none⟩) := hT 10 _ 115 (by decide) rfl rfl
                    have e116 : b__.eval (.tmp 116) = .agg #[ub] := hT 11 _ 116 (by decide) rfl rfl
                    have e117 : b__.eval (.tmp 117) = .int .i64 ((b : Nat) : Int) := hT 12 _ 117 (by decide) rfl rfl
                    obtain ⟨vs, hvs, hb⟩ := frame_of hdf hsz hold
                    replace e119 : vs 119 = .pointer (some ⟨g11, 0 + (xk) * 1, none⟩) := (hvs 119).symm.trans e119
                    replace e118 := (hvs 118) ▸ e118
                    replace e105 : vs 105 = .pointer (some ⟨q, 0, none⟩) := (hvs 105).symm.trans e105
                    replace e106 : vs 106 = .pointer (some ⟨q, 0, none⟩) := (hvs 106).symm.trans e106
                    replace e107 : vs 107 = .pointer (some ⟨q, 3, none⟩) := (hvs 107).symm.trans e107
                    replace e108 : vs 108 = .slice (some ⟨g11, 0, none⟩) n n := (hvs 108).symm.trans e108
                    replace e109 : vs 109 = .int .i64 ((xk : Nat) : Int) := (hvs 109).symm.trans e109
                    replace e110 : vs 110 = .pointer (some ⟨q, 0, none⟩) := (hvs 110).symm.trans e110
                    replace e111 : vs 111 = .pointer (some ⟨q, 0, none⟩) := (hvs 111).symm.trans e111
                    replace e112 : vs 112 = .pointer (some ⟨q, 3, none⟩) := (hvs 112).symm.trans e112
                    replace e113 : vs 113 = .slice (some ⟨g11, 0, none⟩) n n := (hvs 113).symm.trans e113
                    replace e114 : vs 114 = .int .i64 ((xk : Nat) : Int) := (hvs 114).symm.trans e114
                    replace e115 : vs 115 = .pointer (some ⟨g11, 0 + (xk) * 1, none⟩) := (hvs 115).symm.trans e115
                    replace e116 : vs 116 = .agg #[ub] := (hvs 116).symm.trans e116
                    replace e117 : vs 117 = .int .i64 ((b : Nat) : Int) := (hvs 117).symm.trans e117
                    subst hb
                    clear hvs hold hT hdf hsz
                    simp only [setAll, Act.put, List.setIfInBounds_toArray, List.set_cons_zero, List.set_cons_succ, List.getElem_toArray, List.getElem_cons_succ, List.getElem_cons_zero]
                    (intro o_ ho_; simp only [List.getElem?_toArray, List.getElem?_cons_succ, List.getElem?_cons_zero, Option.some.injEq] at ho_; subst ho_)
                    obtain ⟨un, e118, hu1, hun⟩ := e118
                    rw [HDD.out] at hun
                    have hS1 := hS.ret2 hW (stable_set (v := .agg #[un]) (N := blP n L (S.take i) xk ||| 2 ^ b)) hun
                    refine opw_ostore1 rfl (e119.trans (by rw [Nat.zero_add, Nat.mul_one])) e118 (hS1.own 4 rfl) (by omega) hu1 (by kernel_rfl) fun w4 h1 hU => ?_
                    have hS2 := (hS1.upd 4 rfl (.own (.slice (some ⟨g11, 0, none⟩) n n) 31 1 n (xb'.set xk un)) (by simpa [Fact.blk, Value.ownBlock] using upd_gb hU) h1 fun _ e => .inl e)
                    refine ⟨_, _, ⟨xb'.set xk un, by rw [List.length_set]; exact HXL.out, rfl, hS2.stable, fun D w h => ⟨(HKP.out D w h.1.1).1, ((HKP.out D w h.1.1).2.set HXL.out h.2).congr fun k _ => ?_⟩⟩, by rw [hU.size]; exact hW.size, hS2⟩
                    by_cases e : k = xk
                    · subst e; simp
                    · have e2 : ¬ ((k : Nat) : Int) = ((xk : Nat) : Int) := by omega
                      simp [e, e2]
                case done =>
                  rintro D W F' K' hD ⟨xb', hxl, rfl, hKs, hk'⟩ hS hK
                  subst hact
                  have hM := hS.mark hsz hD (HLow.out xb') hK rfl
                  have HKP := Lib.hid hk'
                  clear hk' hS hK
                  go_wp2_with fail
                  refine ⟨m - 1, by omega, i + 1, D :: ds, xa', xb', ⟨by omega, rfl, rfl, rfl, rfl, rfl, congrArg (Value.int .i64) (by omega), rfl, HXA.out, hxl, ?_⟩⟩
                  refine ((hM.sub (List.sublist_cons_self _ _)).perm ?_).mono (stable_relK KS _ _ _ _ _ _) fun D w h => ⟨k1 _ _ (HKP.out D w h).1, k2 _ _ (HKP.out D w h).1, (HKP.out D w h).2.congr fun k _ => ?_⟩
                  · exact (perm_mark [_, _, _, _, _, _] _ _ _ _).symm
                  · have hmem : ((k : Nat) : Int) ∈ memL ws ↔ TC L k b := by rw [mem_memL HCN.out.1, ← HVN.out]; exact tb_above HL.out
                    rw [HTK.out]
                    by_cases h : TC L k b
                    · rw [if_pos (hmem.2 h)]; exact blP_in HL.out h
                    · rw [if_neg (fun h2 => h (hmem.1 h2))]; exact blP_out h
        · go_wp2_with (first | ((with_reducible show wpList _ _ _ (⟨_, .binOp _ _ _ _ _, _, _, _, _⟩ :: _) _ _); (first | (refine st_lss rfl _ _ _ _ rfl _ _ _ rfl rfl (fun h_ => ?_) (fun h_ => ?_)) | (refine st_leq rfl _ _ _ _ rfl _ _ _ rfl rfl (fun h_ => ?_) (fun h_ => ?_)) | (refine st_gtr rfl _ _ _ _ rfl _ _ _ rfl rfl (fun h_ => ?_) (fun h_ => ?_)) | (refine st_geq rfl _ _ _ _ rfl _ _ _ rfl rfl (fun h_ => ?_) (fun h_ => ?_)) | (refine st_eql rfl _ _ _ _ rfl _ _ _ rfl rfl (fun h_ => ?_) (fun h_ => ?_)) | (refine st_neq rfl _ _ _ _ rfl _ _ _ rfl rfl (fun h_ => ?_) (fun h_ => ?_))) <;> go_prune))
          have hS1 := hS.sub (F' := (.box q 69 #[.int .i64 (n : Nat), .slice A L.length c, .slice (some ⟨g6, 0, none⟩) n n, .slice (some ⟨g11, 0, none⟩) n n, .slice As S.length cs] :: .own (.slice (some ⟨g6, 0, none⟩) n n) 31 1 n xa :: .own (.slice (some ⟨g11, 0, none⟩) n n) 31 1 n xb :: F0) ++ marksF ds) (.cons _ (.cons_cons _ (.cons_cons _ (.cons_cons _ (.cons _ (.cons _ (List.sublist_append_right _ _)))))))
          refine leaves_marks ?_ ds wr hS1
          intro w' h
          refine ⟨_, results_none rfl _ _ _, rfl, .slice (some ⟨g6, 0, none⟩) n n, .slice (some ⟨g11, 0, none⟩) n n, xa, xb, ?_⟩
          have hall : ∀ k, k < n → k ∈ S := nodup_full HT.out.1 HSB.out hSn2
          have ht : S.take i = S := List.take_of_length_le (by omega)
          refine ((h.freeze 1 (by decide) rfl).freeze 1 (by decide) rfl).mono (KS.and (((stable_sl (by decide)).and stable_setsX).and ((stable_sl (by decide)).and stable_setsX))) fun D w hk => ?_
          obtain ⟨⟨⟨h1, h2, h3⟩, h4⟩, h5⟩ := hk
          rw [ht] at h2 h3
          exact ⟨h1, ⟨h4, h2.congr fun k hk => by rw [if_pos (hall k hk)]⟩, h5, h3.congr fun k _ => blP_full hall k⟩
end Go.Proofs.YtihpgmbinhmmlaaDoor
namespace Go.Proofs.YtihpgmbinhmmlaaDoor
open Go.RowKit

theorem run_part_int {P : Program} (w : World) {e : TypeId} {k : IntKind} (hu : P.underlying e = some (.int k)) (xs : List Value) (off : Nat) (v : Value) (h : xs[off]? = some v) : (part e xs.toArray off).run P w = .ok v w := by
  have : (isAgg e).run P w = .ok false w := by unfold isAgg; rw [Sem.run_bind, run_underlying hu w]; simp
  simp [part, this, h]
theorem run_eqItems_ints {P : Program} (w : World) (d : Nat) {e : TypeId} {k : IntKind} (hu : P.underlying e = some (.int k)) (xs ys : List Int) (is : List Nat) (hx : ∀ i ∈ is, i < xs.length ∧ i < ys.length) :
    (Op.eqItems (d + 1) e 1 (xs.map (Value.int k)).toArray (ys.map (Value.int k)).toArray is).run P w = .ok (is.all fun i => xs.getD i 0 == ys.getD i 0) w := by
  induction is with
  | nil => simp [Op.eqItems]
  | cons i is ih =>
    have h1 := hx i (by simp)
    have p1 := run_part_int (P := P) w hu (xs.map (Value.int k)) (i * 1) (.int k (xs.getD i 0)) (by simp [List.getElem?_eq_getElem h1.1])
    have p2 := run_part_int (P := P) w hu (ys.map (Value.int k)) (i * 1) (.int k (ys.getD i 0)) (by simp [List.getElem?_eq_getElem h1.2])
    have ih := ih (fun j hj => hx j (by simp [hj]))
    simp only [Op.eqItems, Sem.run_bind, p1, p2, Result.andThen_ok, run_equalIn_int w d e k k _ _ hu, List.all_cons]
    cases hb : (xs.getD i 0 == ys.getD i 0)
    · simp
    · simpa using ih
theorem all_range_eq (xs ys : List Int) (h : xs.length = ys.length) : ((List.range xs.length).all fun i => xs.getD i 0 == ys.getD i 0) = (xs == ys) := by
  rw [Bool.eq_iff_iff, List.all_eq_true, beq_iff_eq]
  constructor
  · intro h1
    apply List.ext_getElem h
    intro i h2 h3
    have := h1 i (by simpa using h2)
    simpa [List.getD_eq_getElem?_getD, List.getElem?_eq_getElem h2, List.getElem?_eq_getElem h3] using this
  · rintro rfl i _; simp
theorem run_eql_ints {P : Program} (w : World) (t e : TypeId) (n : Nat) (k : IntKind) (hu : P.underlying t = some (.array n e)) (i : TypeInfo) (hi : P.info? e = some i) (he : P.underlying e = some (.int k)) (hc : P.cellsOf e = 1) (xs ys : List Int) (hx : xs.length = n) (hy : ys.length = n) :
    (binOp .eql t (.agg (xs.map (Value.int k)).toArray) (.agg (ys.map (Value.int k)).toArray)).run P w = .ok (.bool (xs == ys)) w := by
  rw [run_eql_struct, run_equalIn_array w 9999 _ _ hu hi, hc, run_eqItems_ints w 9998 he xs ys _ (by intro j hj; simp at hj; omega), ← hx, all_range_eq xs ys (by omega)]
  rfl
theorem run_neq_ints {P : Program} (w : World) (t e : TypeId) (n : Nat) (k : IntKind) (hu : P.underlying t = some (.array n e)) (i : TypeInfo) (hi : P.info? e = some i) (he : P.underlying e = some (.int k)) (hc : P.cellsOf e = 1) (xs ys : List Int) (hx : xs.length = n) (hy : ys.length = n) :
    (binOp .neq t (.agg (xs.map (Value.int k)).toArray) (.agg (ys.map (Value.int k)).toArray)).run P w = .ok (.bool (xs != ys)) w := by
  rw [run_neq_struct, run_equalIn_array w 9999 _ _ hu hi, hc, run_eqItems_ints w 9998 he xs ys _ (by intro j hj; simp at hj; omega), ← hx, all_range_eq xs ys (by omega)]
  rfl
end Go.Proofs.YtihpgmbinhmmlaaDoor
namespace Go.Proofs.YtihpgmbinhmmlaaDoor
open Go.RowKit
attribute [local go_sem ↓] Go.wp_at_zero Go.wp_at_succ
set_option maxRecDepth 20000
set_option exponentiation.threshold 5000

abbrev FP := Fin 256 × Fin 256
def pairF (x : FP) : Nat × Nat := (x.1.1, x.2.1)
def encF (x : FP) : List Value := [.int .i64 (x.1.1 : Nat), .int .i64 (x.2.1 : Nat)]
def cfF (x y : FP) : Int := if x.1.1 = y.1.1 then (x.2.1 : Int) - (y.2.1 : Int) else (x.1.1 : Int) - (y.1.1 : Int)
theorem ltF (x y : FP) : ltOf cfF x y = decide (plt (pairF x) (pairF y)) := by
  rw [Bool.eq_iff_iff, decide_eq_true_eq]
  unfold ltOf cfF plt pairF
  rw [decide_eq_true_eq]
  dsimp only
  split <;> omega
theorem swoF : Sort.SWO (ltOf cfF) where
  irrefl x := by rw [ltF]; simp [plt_irrefl]
  trans x y z h1 h2 := by rw [ltF] at *; simp only [decide_eq_true_eq] at *; exact plt_trans h1 h2
  ntrans x y z h1 h2 := by
    rw [ltF] at *; simp only [decide_eq_false_iff_not] at *
    intro h3
    rcases plt_total h1 with h4 | h4
    · exact h2 (plt_trans h4 h3)
    · rw [← h4] at h2; exact h2 h3
theorem flat_pcells (d : Array FP) : (Sort.flatK encF 2 d).toList = pcells (d.toList.map pairF) := by
  refine List.ext_getElem? fun t => ?_
  by_cases ht : t < d.size * 2
  · have h1 : t / 2 < d.size := by omega
    have h2 := pcells_at (d.toList.map pairF) (t / 2) (by simpa using h1)
    have h3 : (d.toList.map pairF).getD (t / 2) (0, 0) = pairF d[t / 2]! := by
      simp [List.getD_eq_getElem?_getD, h1]
    rw [h3] at h2
    have h4 : (Sort.flatK encF 2 d).toList[t]? = some ((Sort.flatK encF 2 d)[t]!) := by
      rw [getElem!_pos _ t (by simpa using ht)]; simp [ht]
    rw [h4, Sort.get_flatK _ _ _ _ ht]
    rcases Nat.mod_two_eq_zero_or_one t with h5 | h5
    · rw [h5]; rw [show t / 2 * 2 = t by omega] at h2; rw [h2.1]; rfl
    · rw [h5]; rw [show t / 2 * 2 + 1 = t by omega] at h2; rw [h2.2]; rfl
  · rw [List.getElem?_eq_none (by simp; omega), List.getElem?_eq_none (by rw [pcells_len]; simp; omega)]
theorem sort_world {α : Type} [Inhabited α] {enc : α → List Value} {k : Nat} {w : World} {base g n c : Nat} {e : TypeId} {xs : List Value} (h : w.ownsRow base e k (.slice (some ⟨g, 0, none⟩) n c) n xs) (d d' : Array α) (hd : d.size = n) (hd' : d'.size = n) (hx : (Sort.flatK enc k d).toList = xs) (m : Nat) (os : Array Obj) :
    Sort.HoldsK enc k w g 0 d ∧ g < w.heap.size ∧ w.grownBy (sortWorldK enc k w g 0 m d' os) (some g) ∧ (sortWorldK enc k w g 0 m d' os).ownsRow base e k (.slice (some ⟨g, 0, none⟩) n c) n (Sort.flatK enc k d').toList := by
  obtain ⟨h1, h2⟩ := h
  obtain ⟨h2, _⟩ | ⟨g2, cap, cur, h3, h4, h5, h6, h7, h8, h9⟩ := h2
  · injection h2 with h2; exact absurd h2 (by simp)
  · injection h3 with h3 h10 h11
    injection h3 with h3; injection h3 with h3
    subst h3; subst h11
    have hlt : g < w.heap.size := (Array.getElem?_eq_some_iff.1 h5).1
    have hnk : n * k ≤ cur.size := by rw [h8]; exact Nat.mul_le_mul_right _ h6
    refine ⟨fun j hj => ?_, hlt, ⟨rfl, rfl, rfl, ?_, fun b hb hbn => ?_⟩, ?_, .inr ⟨g, c, Sort.putCells id 0 (Sort.flatK enc k d') cur, rfl, h4, ?_, h6, h7, ?_, ?_⟩⟩
    · have hj2 : j < n * k := by simpa [hd] using hj
      have e1 : (Sort.flatK enc k d)[j]! = cur[j]'(by omega) := by
        have : (Sort.flatK enc k d).toList[j]? = cur.toList[j]? := by rw [hx, ← h9, List.getElem?_take_of_lt hj2]
        rw [getElem!_pos _ j hj]
        rw [List.getElem?_eq_getElem (by simpa using hj), List.getElem?_eq_getElem (by simp; omega)] at this
        simpa using this
      constructor
      · rw [id, e1]; simp [World.cell?, h5, show j < cur.size by omega]
      · simp [World.frozen?, h5]
    · exact size_sortWorldK_c ..
    · unfold sortWorldK Sort.grow Sort.putRowK Sort.putRow Sort.mapBlock Sort.ahead
      dsimp only
      rw [Array.getElem?_append_left (by simpa using hb), Array.getElem?_modify, if_neg (fun e => hbn (by rw [e]))]
    · simp [hd']
    · unfold sortWorldK Sort.grow Sort.putRowK Sort.putRow Sort.mapBlock Sort.ahead
      dsimp only
      rw [Array.getElem?_append_left (by simpa using hlt), Array.getElem?_modify, if_pos rfl, h5]; rfl
    · simp [Sort.putCells, h8]
    · refine List.ext_getElem? fun t => ?_
      by_cases ht : t < n * k
      · rw [List.getElem?_take_of_lt ht]
        simp [Sort.putCells, show t < cur.size by omega, hd', ht]
      · rw [List.getElem?_eq_none (by rw [List.length_take]; omega), List.getElem?_eq_none (by simp [hd']; omega)]
theorem compare_any (x y : FP) (W : World) : Calls Tryd.prog 28 #[.agg #[.int .i64 (x.1.1 : Nat), .int .i64 (x.2.1 : Nat)], .agg #[.int .i64 (y.1.1 : Nat), .int .i64 (y.2.1 : Nat)]] W fun e w' => e = .returned (.int .i64 (cfF x y)) ∧ ∃ q os', w' = Sort.grow (W.drewN q) os' := by
  have h1 := x.1.2
  have h2 := x.2.2
  have h3 := y.1.2
  have h4 := y.2.2
  unfold cfF
  generalize x.1.1 = a at *
  generalize x.2.1 = b at *
  generalize y.1.1 = c at *
  generalize y.2.1 = d at *
  by_cases he : a = c
  · subst he
    rw [if_pos rfl]
    go_enter Tryd.func28, Tryd.ntmps28
    go_wp2
    go_ret
    exact ⟨rfl, 0, _, by rw [Sort.alloc_eq_grow, Sort.alloc_eq_grow, Sort.grow_grow]; rfl⟩
  · rw [if_neg he]
    go_enter Tryd.func28, Tryd.ntmps28
    go_wp2
    go_ret
    exact ⟨rfl, 0, _, by rw [Sort.alloc_eq_grow, Sort.alloc_eq_grow, Sort.grow_grow]; rfl⟩
theorem sortp_any {w0 w : World} {F : List Fact} {K : (Nat → Prop) → World → Prop} (i g n cap : Nat) (L : List (Nat × Nat)) (hL : Inr 256 L) (hl : L.length = n) (hn : n < 4611686018427387904) (hS : St w0 w F K) (hi : F[i]? = some (.own (.slice (some ⟨g, 0, none⟩) n cap) 63 2 n (pcells L))) :
    Calls Tryd.prog 27 #[.slice (some ⟨g, 0, none⟩) n cap, .func (.func 28) #[] #[]] w fun e w' => ∃ M : List (Nat × Nat), e = .returned (.tuple #[]) ∧ M.Perm L ∧ M.Pairwise (fun x y => ¬ plt y x) ∧ St w0 w' (F.set i (.own (.slice (some ⟨g, 0, none⟩) n cap) 63 2 n (pcells M))) K := by
  have ho := hS.own i hi
  obtain ⟨d, rfl⟩ : ∃ d : Array FP, L = d.toList.map pairF := by
    refine ⟨(L.map fun x => ((⟨x.1 % 256, Nat.mod_lt _ (by decide)⟩, ⟨x.2 % 256, Nat.mod_lt _ (by decide)⟩) : FP)).toArray, ?_⟩
    rw [List.map_map]
    refine (List.map_id _).symm.trans (List.map_congr_left fun x hx => ?_)
    have := hL x hx
    exact Prod.ext (Nat.mod_eq_of_lt this.1).symm (Nat.mod_eq_of_lt this.2).symm
  have hd : d.size = n := by simpa using hl
  have eg : ∀ args w, (callFunc 28 args).run Tryd.prog w = .ok (.enter 28 args) w := enters_of Tryd.func28 (by kernel_rfl) rfl
  obtain ⟨hH, hb, _, _⟩ := sort_world ho d d hd hd (flat_pcells d) 0 #[]
  have hcon := AnyQ.slices_SortFunc Tryd.sortPairs 2 Tryd.isAgg63 Tryd.sizeOf63 encF (fun _ => rfl) (fun x v hv => by simp [encF] at hv; rcases hv with rfl | rfl <;> rfl) cfF swoF 28 #[] g 0 cap d w eg (fun _ _ _ _ x y => compare_any x y _) hH hb (by omega)
  rw [hd] at hcon
  refine hcon.mono ?_
  rintro e w' ⟨rfl, d', m, os, hp, hs, rfl⟩
  have hd' : d'.size = n := hp.1.trans hd
  obtain ⟨_, _, hg, ho'⟩ := sort_world ho d d' hd hd' (flat_pcells d) m os
  refine ⟨d'.toList.map pairF, rfl, ?_, ?_, ?_⟩
  · have := hp.2.2
    rw [show d'.extract 0 n = d' by rw [← hd']; simp, show d.extract 0 n = d by rw [← hd]; simp] at this
    exact this.map _
  · rw [List.pairwise_iff_getElem]
    intro a b ha hb hab
    have hb' : b < n := by simpa [hd'] using hb
    have := hs a b (Nat.zero_le _) hab hb'
    rw [ltF] at this
    simp only [decide_eq_false_iff_not] at this
    rw [getElem!_pos _ a (by omega), getElem!_pos _ b (by omega)] at this
    simpa using this
  · rw [flat_pcells] at ho'
    exact hS.upd i hi _ hg ho' fun k hk => .inl hk
section
variable {P : Program} {o : Oper} {a : Act} {w w' : World} {K : Act → World → Prop} {Q : Exit → Act → World → Prop}
theorem own_pair {base g n cap k : Nat} {e : TypeId} {R : List (Nat × Nat)} (h : w.ownsRow base e 2 (.slice (some ⟨g, 0, none⟩) n cap) n (pcells R)) (hk : k < R.length) : w.rangeAt g (k * 2) [.int .i64 ((R.getD k (0, 0)).1 : Nat), .int .i64 ((R.getD k (0, 0)).2 : Nat)] := by
  have h2 := pcells_at R k hk
  intro j v hj
  match j, hj with
  | 0, hj => simp at hj; subst hj; exact own_cell h _ _ h2.1
  | 1, hj => simp at hj; subst hj; exact own_cell h _ _ h2.2
  | j + 2, hj => simp at hj
theorem pairs_eql {t e : TypeId} (hu : P.underlying t = some (.array 2 e)) (i : TypeInfo) (hi : P.info? e = some i) (he : P.underlying e = some (.int .i64)) (hc : P.cellsOf e = 1) (x y : Nat × Nat) :
    (binOp .eql t (.agg #[.int .i64 (x.1 : Nat), .int .i64 (x.2 : Nat)]) (.agg #[.int .i64 (y.1 : Nat), .int .i64 (y.2 : Nat)])).run P w = .ok (.bool (decide (x = y))) w := by
  have := run_eql_ints w t e 2 .i64 hu i hi he hc [(x.1 : Int), (x.2 : Int)] [(y.1 : Int), (y.2 : Int)] rfl rfl
  rw [show decide (x = y) = ([(x.1 : Int), (x.2 : Int)] == [(y.1 : Int), (y.2 : Int)]) by rw [Bool.eq_iff_iff]; simp [Prod.ext_iff]; omega]
  exact this
theorem pairs_neq {t e : TypeId} (hu : P.underlying t = some (.array 2 e)) (i : TypeInfo) (hi : P.info? e = some i) (he : P.underlying e = some (.int .i64)) (hc : P.cellsOf e = 1) (x y : Nat × Nat) :
    (binOp .neq t (.agg #[.int .i64 (x.1 : Nat), .int .i64 (x.2 : Nat)]) (.agg #[.int .i64 (y.1 : Nat), .int .i64 (y.2 : Nat)])).run P w = .ok (.bool (decide (x ≠ y))) w := by
  have := run_neq_ints w t e 2 .i64 hu i hi he hc [(x.1 : Int), (x.2 : Int)] [(y.1 : Int), (y.2 : Int)] rfl rfl
  rw [show decide (x ≠ y) = ([(x.1 : Int), (x.2 : Int)] != [(y.1 : Int), (y.2 : Int)]) by rw [Bool.eq_iff_iff]; simp [Prod.ext_iff]; omega]
  exact this
theorem Upd.trans {g : Nat} {u v w : World} (h : Upd g u v) (k : Upd g v w) : Upd g u w :=
  ⟨k.os.trans h.os, k.tape.trans h.tape, k.output.trans h.output, k.size.trans h.size, fun b hb => (k.other b hb).trans (h.other b hb)⟩
theorem own_setCells {base g n cap size : Nat} {e : TypeId} : ∀ (vs : List Value) (i : Nat) (w : World) (xs : List Value), w.ownsRow base e size (.slice (some ⟨g, 0, none⟩) n cap) n xs →
    ∃ ys, (w.setCells g i vs).ownsRow base e size (.slice (some ⟨g, 0, none⟩) n cap) n ys ∧ ys.take i = xs.take i ∧ Upd g w (w.setCells g i vs)
  | [], i, w, xs, h => ⟨xs, h, rfl, ⟨rfl, rfl, rfl, rfl, fun _ _ => rfl⟩⟩
  | v :: vs, i, w, xs, h => by
    obtain ⟨ys, h1, h2, h3⟩ := own_setCells vs (i + 1) (w.setCell ⟨g, i, none⟩ v) _ (h.stored i v).1
    refine ⟨ys, h1, ?_, Upd.trans (upd_setCell w g i v) h3⟩
    have := congrArg (List.take i) h2
    rw [List.take_take, List.take_take, show min i (i + 1) = i by omega] at this
    rw [this, List.take_set_of_le (Nat.le_refl _)]
theorem own_short {base g n cap size k : Nat} {e : TypeId} {xs : List Value} (h : w.ownsRow base e size (.slice (some ⟨g, 0, none⟩) n cap) n xs) (hk : k ≤ n) : w.ownsRow base e size (.slice (some ⟨g, 0, none⟩) k cap) k (xs.take (k * size)) := by
  obtain ⟨h1, h2⟩ := h
  have hkn : k * size ≤ n * size := Nat.mul_le_mul_right _ hk
  refine ⟨by rw [List.length_take]; omega, .inr ?_⟩
  obtain ⟨h2, _⟩ | ⟨g2, c2, cur, h3, h4, h5, h6, h7, h8, h9⟩ := h2
  · injection h2 with h2; exact absurd h2 (by simp)
  · injection h3 with h3 h10 h11
    injection h3 with h3; injection h3 with h3
    subst h3; subst h11
    exact ⟨g, cap, cur, rfl, h4, h5, by omega, h7, h8, by rw [← h9, List.take_take, Nat.min_eq_left hkn]⟩
theorem run_store_own2 {base g n cap size i : Nat} {e ty : TypeId} {xs : List Value} {u v : Value} (h : w.ownsRow base e size (.slice (some ⟨g, 0, none⟩) n cap) n xs) (hi : i + 1 < n * size) (h1 : u.oneCell' = true) (h2 : v.oneCell' = true) (hs : (P.info? ty).map (·.size) = some 2) :
    (Instr.storeAt ty (.pointer (some ⟨g, i, none⟩)) (.agg #[u, v])).run P w = .ok () ((w.setCell ⟨g, i, none⟩ u).setCell ⟨g, i + 1, none⟩ v) := by
  obtain ⟨cs, h3, h4, _⟩ := own_box h
  have := run_storeCells_cells (P := P) g i [u, v] 0 w (fun j hj => by have hc := h3.cell (i + j); simp at hj; simp [hc]; omega) (fun j hj => h3.free _) (by simpa using ⟨h1, h2⟩)
  cases hq : P.info? ty with
  | none => simp [hq] at hs
  | some inf =>
    have hs' : inf.size = 2 := by simpa [hq] using hs
    simp only [Nat.add_zero] at this
    simp [Instr.storeAt, Instr.sureAddr, storeVar, sizeOf, typeInfo, hq, Value.cells, hs', this, World.setCells]
theorem opw_ostore2 {ty e : TypeId} {x y : Operand} {g i base n cap size : Nat} {u v : Value} {xs : List Value} (ho : o.op = .store ty x y) (hx : a.eval x = .pointer (some ⟨g, i, none⟩)) (hy : a.eval y = .agg #[u, v]) (hown : w.ownsRow base e size (.slice (some ⟨g, 0, none⟩) n cap) n xs) (hi : i + 1 < n * size)
    (h1 : u.oneCell' = true) (h2 : v.oneCell' = true) (hs : (P.info? ty).map (·.size) = some 2) (hk : ∀ w', w'.ownsRow base e size (.slice (some ⟨g, 0, none⟩) n cap) n ((xs.set i u).set (i + 1) v) → Upd g w w' → K (a.put o.dst undef) w') : o.wp P a w K Q := by
  unfold Oper.wp execOp
  simp only [ho, hx, hy, Sem.run_bind, run_store_own2 hown hi h1 h2 hs, Result.andThen_ok]
  exact hk _ ((hown.stored i u).1.stored (i + 1) v).1 (Upd.trans (upd_setCell w g i u) (upd_setCell _ g (i + 1) v))
theorem run_clear_own {base g n cap k m c : Nat} {t e ty : TypeId} {zs : Array Value} {xs : List Value} (h : w.ownsRow base e 2 (.slice (some ⟨g, 0, none⟩) n cap) n xs) (ht : P.underlying t = some (.slice e)) (hz : (zeroValue e).run P w = .ok (.agg zs) w) (hzs : zs.size = 2) (h1 : ∀ x ∈ zs.toList, x.oneCell' = true) (hk : k + m = n) :
    ∃ w' ys, (Builtin.clear_ #[t] ty #[.slice (some ⟨g, k * 2, none⟩) m c]).run P w = .ok (.tuple #[]) w' ∧ w'.ownsRow base e 2 (.slice (some ⟨g, 0, none⟩) n cap) n ys ∧ ys.take (k * 2) = xs.take (k * 2) ∧ w.grownBy w' (some g) := by
  rcases Nat.eq_zero_or_pos m with h0 | h0
  · subst h0
    refine ⟨w, xs, ?_, h, rfl, ⟨rfl, rfl, rfl, Nat.le_refl _, fun _ _ _ => rfl⟩⟩
    simp [Builtin.clear_, run_underlying ht w]
  · obtain ⟨cs, h3, h4, _⟩ := own_box h
    have hlen : (Builtin.zeroCells zs m).toList.length = m * 2 := by simp [Builtin.zeroCells, hzs]
    obtain ⟨ys, h5, h6, h7⟩ := own_setCells (Builtin.zeroCells zs m).toList (k * 2) w xs h
    have := run_storeCells_cells (P := P) g (k * 2) (Builtin.zeroCells zs m).toList 0 w (fun j hj => by have hc := h3.cell (k * 2 + j); rw [hlen] at hj; simp [hc]; omega) (fun j hj => h3.free _) (fun x hx => by
      simp only [Builtin.zeroCells, Array.toList_map, List.mem_map, Array.toList_range, List.mem_range] at hx
      obtain ⟨i, hi, rfl⟩ := hx
      refine h1 _ ?_
      rw [getElem!_pos zs (i % zs.size) (Nat.mod_lt _ (by omega))]
      simp)
    simp only [Nat.add_zero] at this
    refine ⟨_, ys, ?_, h5, h6, upd_gb h7⟩
    obtain ⟨m', rfl⟩ : ∃ m', m = m' + 1 := ⟨m - 1, by omega⟩
    simp [Builtin.clear_, run_underlying ht w, hz, Value.cells, this]
end

end Go.Proofs.YtihpgmbinhmmlaaDoor
namespace Go.Proofs.YtihpgmbinhmmlaaDoor
open Go.RowKit
attribute [local go_sem ↓] Go.wp_at_zero Go.wp_at_succ
set_option maxRecDepth 20000
set_option exponentiation.threshold 5000

def Cmp (M C : List (Nat × Nat)) (j : Nat) : Prop := Asc C ∧ ∀ x, x ∈ C ↔ x ∈ M.take j
theorem pt_getD {M : List (Nat × Nat)} {j : Nat} (hj : j < M.length) : M.take (j + 1) = M.take j ++ [M.getD j (0, 0)] := by
  rw [List.take_add_one, getD_at (0, 0) hj]; rfl
theorem Cmp.one {M : List (Nat × Nat)} (h : 0 < M.length) : Cmp M (M.take 1) 1 := by
  refine ⟨?_, fun x => Iff.rfl⟩
  rw [show M.take 1 = M.take 0 ++ [M.getD 0 (0, 0)] from pt_getD h]
  simp [Asc]
theorem mem_takeD {M : List (Nat × Nat)} {j : Nat} (h0 : 0 < j) (hj : j ≤ M.length) : M.getD (j - 1) (0, 0) ∈ M.take j := by
  obtain ⟨k, rfl⟩ : ∃ k, j = k + 1 := ⟨j - 1, by omega⟩
  rw [pt_getD (by omega)]
  simp
theorem Cmp.same {M C : List (Nat × Nat)} {j : Nat} (h : Cmp M C j) (h0 : 0 < j) (hj : j < M.length) (he : M.getD j (0, 0) = M.getD (j - 1) (0, 0)) : Cmp M C (j + 1) := by
  refine ⟨h.1, fun x => ?_⟩
  rw [pt_getD hj, List.mem_append, h.2, List.mem_singleton]
  constructor
  · exact .inl
  · rintro (h1 | rfl)
    · exact h1
    · rw [he]; exact mem_takeD h0 (by omega)
theorem Cmp.step {M C : List (Nat × Nat)} {j : Nat} (hM : M.Pairwise fun x y => ¬ plt y x) (h : Cmp M C j) (h0 : 0 < j) (hj : j < M.length) (he : M.getD j (0, 0) ≠ M.getD (j - 1) (0, 0)) : Cmp M (C ++ [M.getD j (0, 0)]) (j + 1) := by
  have hp : ∀ a b, a < b → b < M.length → ¬ plt (M.getD b (0, 0)) (M.getD a (0, 0)) := fun a b hab hb => by
    have := List.pairwise_iff_getElem.1 hM a b (by omega) hb hab
    rw [List.getD_eq_getElem?_getD, List.getD_eq_getElem?_getD, List.getElem?_eq_getElem hb, List.getElem?_eq_getElem (by omega)]
    exact this
  refine ⟨?_, fun x => by rw [pt_getD hj, List.mem_append, List.mem_append, h.2]⟩
  refine List.pairwise_append.2 ⟨h.1, by simp, fun x hx y hy => ?_⟩
  rw [List.mem_singleton] at hy
  subst hy
  obtain ⟨i, hi⟩ := List.mem_iff_getElem?.1 ((h.2 x).1 hx)
  have hij : i < j := by
    have := (List.getElem?_eq_some_iff.1 hi).1
    rw [List.length_take] at this; omega
  have hx2 : x = M.getD i (0, 0) := by
    rw [List.getElem?_take_of_lt hij] at hi
    rw [List.getD_eq_getElem?_getD, hi]; rfl
  rcases plt_total (hp i j hij hj) with h1 | h1
  · rw [hx2]; exact h1
  · exfalso
    have h2 : i ≠ j - 1 := fun e => he (by rw [h1, e])
    have h3 := hp i (j - 1) (by omega) (by omega)
    have h4 := hp (j - 1) j (by omega) hj
    rw [h1] at h4
    rcases plt_total h3 with h5 | h5
    · exact h4 h5
    · exact he (by rw [h1, ← h5])
theorem pcells_set : ∀ (L : List (Nat × Nat)) (k : Nat) (x : Nat × Nat), ((pcells L).set (k * 2) (.int .i64 (x.1 : Nat))).set (k * 2 + 1) (.int .i64 (x.2 : Nat)) = pcells (L.set k x)
  | [], k, x => by simp [pcells]
  | y :: L, 0, x => by simp [pcells]
  | y :: L, k + 1, x => by
    rw [pcells_cons, show (k + 1) * 2 = k * 2 + 1 + 1 by omega, show k * 2 + 1 + 1 + 1 = k * 2 + 1 + 1 + 1 from rfl]
    simp only [List.set_cons_succ, pcells_cons]
    rw [pcells_set L k x]
theorem pcells_take (L : List (Nat × Nat)) (k : Nat) : (pcells L).take (k * 2) = pcells (L.take k) := by
  refine List.ext_getElem? fun t => ?_
  by_cases ht : t < k * 2
  · rw [List.getElem?_take_of_lt ht]
    by_cases h1 : t / 2 < L.length
    · have h2 := pcells_at L (t / 2) h1
      have h3 := pcells_at (L.take k) (t / 2) (by rw [List.length_take]; omega)
      rw [show (L.take k).getD (t / 2) (0, 0) = L.getD (t / 2) (0, 0) by rw [List.getD_eq_getElem?_getD, List.getD_eq_getElem?_getD, List.getElem?_take_of_lt (by omega)]] at h3
      rcases Nat.mod_two_eq_zero_or_one t with h5 | h5
      · rw [show t / 2 * 2 = t by omega] at h2 h3; rw [h2.1, h3.1]
      · rw [show t / 2 * 2 + 1 = t by omega] at h2 h3; rw [h2.2, h3.2]
    · rw [List.getElem?_eq_none (by rw [pcells_len]; omega), List.getElem?_eq_none (by rw [pcells_len, List.length_take]; omega)]
  · rw [List.getElem?_eq_none (by rw [List.length_take]; omega), List.getElem?_eq_none (by rw [pcells_len, List.length_take]; omega)]
theorem eq_pairs (w : World) (x y : Nat × Nat) : (binOp .eql 63 (.agg #[.int .i64 (x.1 : Nat), .int .i64 (x.2 : Nat)]) (.agg #[.int .i64 (y.1 : Nat), .int .i64 (y.2 : Nat)])).run Tryd.prog w = .ok (.bool (decide (x = y))) w := by
  obtain ⟨i, hi⟩ : ∃ i, Tryd.prog.info? 3 = some i := Option.isSome_iff_exists.1 (show (Tryd.prog.info? 3).isSome = true by kernel_rfl)
  exact pairs_eql Tryd.underlying63 i hi Tryd.underlying3 (by kernel_rfl) x y
theorem ne_pairs (w : World) (x y : Nat × Nat) : (binOp .neq 63 (.agg #[.int .i64 (x.1 : Nat), .int .i64 (x.2 : Nat)]) (.agg #[.int .i64 (y.1 : Nat), .int .i64 (y.2 : Nat)])).run Tryd.prog w = .ok (.bool (decide (x ≠ y))) w := by
  obtain ⟨i, hi⟩ : ∃ i, Tryd.prog.info? 3 = some i := Option.isSome_iff_exists.1 (show (Tryd.prog.info? 3).isSome = true by kernel_rfl)
  exact pairs_neq Tryd.underlying63 i hi Tryd.underlying3 (by kernel_rfl) x y
theorem opw_clear {P : Program} {o : Oper} {a : Act} {w w' : World} {K : Act → World → Prop} {Q : Exit → Act → World → Prop} {t : TypeId} {x : Operand} {u v : Value} (ho : o.op = .call { callee := .builtin .clear, args := #[x], argTypes := #[t] }) (hx : a.eval x = u) (hr : (Builtin.clear_ #[t] o.type #[u]).run P w = .ok v w') (hk : K (a.put o.dst v) w') : o.wp P a w K Q := by
  unfold Oper.wp execOp
  simp only [ho, resolve, invoke, builtin, Sem.run_bind, Sem.run_pure, Result.andThen_ok, List.map_toArray, List.map_cons, List.map_nil, hx, hr]
  exact hk
theorem compactp_any {w0 w : World} {F0 : List Fact} {K : (Nat → Prop) → World → Prop} (g n cap : Nat) (M : List (Nat × Nat)) (hl : M.length = n) (hn : n ≤ 1000000) (hM : M.Pairwise fun x y => ¬ plt y x) (hS : St w0 w (.own (.slice (some ⟨g, 0, none⟩) n cap) 63 2 n (pcells M) :: F0) K) :
    Calls Tryd.prog 30 #[.slice (some ⟨g, 0, none⟩) n cap] w fun e w' => ∃ (C : List (Nat × Nat)), e = .returned (.slice (some ⟨g, 0, none⟩) C.length cap) ∧ Cmp M C n ∧ C.length ≤ n ∧ St w0 w' (.own (.slice (some ⟨g, 0, none⟩) C.length cap) 63 2 C.length (pcells C) :: F0) K := by
  have HM := Lib.hid hM
  clear hM
  obtain ⟨hc1, hc2⟩ : n ≤ cap ∧ cap ≤ 9223372036854775807 := by
    obtain ⟨A, c, he, h1, h2⟩ := own_shp (hS.own 0 rfl)
    injection he with _ _ he
    subst he
    exact ⟨h1, h2⟩
  by_cases hn2 : n < 2
  · have H1 : Hid (Cmp M M n) := Lib.hid ⟨by
      match M, hl with
      | [], _ => exact List.Pairwise.nil
      | [x], _ => simp [Asc]
      | x :: y :: r, h => simp at h; omega, fun x => by rw [← hl, List.take_length]⟩
    go_enter Tryd.func30, Tryd.ntmps30
    go_wp2_with (first | ((with_reducible show wpList _ _ _ (⟨_, .binOp _ _ _ _ _, _, _, _, _⟩ :: _) _ _); (first | (refine st_lss rfl _ _ _ _ rfl _ _ _ rfl rfl (fun h_ => ?_) (fun h_ => ?_)) | (refine st_leq rfl _ _ _ _ rfl _ _ _ rfl rfl (fun h_ => ?_) (fun h_ => ?_)) | (refine st_gtr rfl _ _ _ _ rfl _ _ _ rfl rfl (fun h_ => ?_) (fun h_ => ?_)) | (refine st_geq rfl _ _ _ _ rfl _ _ _ rfl rfl (fun h_ => ?_) (fun h_ => ?_)) | (refine st_eql rfl _ _ _ _ rfl _ _ _ rfl rfl (fun h_ => ?_) (fun h_ => ?_)) | (refine st_neq rfl _ _ _ _ rfl _ _ _ rfl rfl (fun h_ => ?_) (fun h_ => ?_))) <;> go_prune))
    go_ret
    subst hl
    exact ⟨M, rfl, H1.out, Nat.le_refl _, hS⟩
  · have H1 := Lib.hid (Cmp.one (M := M) (by omega))
    go_enter Tryd.func30, Tryd.ntmps30
    go_wp2_with (first | ((with_reducible show wpList _ _ _ (⟨_, .binOp _ _ _ _ _, _, _, _, _⟩ :: _) _ _); (first | (refine st_lss rfl _ _ _ _ rfl _ _ _ rfl rfl (fun h_ => ?_) (fun h_ => ?_)) | (refine st_leq rfl _ _ _ _ rfl _ _ _ rfl rfl (fun h_ => ?_) (fun h_ => ?_)) | (refine st_gtr rfl _ _ _ _ rfl _ _ _ rfl rfl (fun h_ => ?_) (fun h_ => ?_)) | (refine st_geq rfl _ _ _ _ rfl _ _ _ rfl rfl (fun h_ => ?_) (fun h_ => ?_)) | (refine st_eql rfl _ _ _ _ rfl _ _ _ rfl rfl (fun h_ => ?_) (fun h_ => ?_)) | (refine st_neq rfl _ _ _ _ rfl _ _ _ rfl rfl (fun h_ => ?_) (fun h_ => ?_))) <;> go_prune))
    go_loopw [3] (fun i wr => ∃ j : Nat, 1 ≤ j ∧ j ≤ n ∧ i = .int .i64 j ∧ Hid (Cmp M (M.take j) j) ∧ St w0 wr (.own (.slice (some ⟨g, 0, none⟩) n cap) 63 2 n (pcells M) :: F0) K) (fun i _ => n - (intOf i).toNat)
    case atStart => exact ⟨1, by omega, by omega, rfl, H1, hS⟩
    case round =>
      clear hS H1
      obtain ⟨j, hj1, hj, rfl, HC, hS⟩ := hrel
      by_cases hlj : j < n
      · have e1 := Lib.hid (fun w => eq_pairs w (M.getD j (0, 0)) (M.getD (j - 1) (0, 0)))
        by_cases hx : M.getD j (0, 0) = M.getD (j - 1) (0, 0)
        · have HC2 := Lib.hid (HC.out.same hj1 (by omega) hx)
          go_wp2_with (first | ((with_reducible show wpList _ _ _ (⟨_, .binOp _ _ _ _ _, _, _, _, _⟩ :: _) _ _); (first | (refine st_lss rfl _ _ _ _ rfl _ _ _ rfl rfl (fun h_ => ?_) (fun h_ => ?_)) | (refine st_leq rfl _ _ _ _ rfl _ _ _ rfl rfl (fun h_ => ?_) (fun h_ => ?_)) | (refine st_gtr rfl _ _ _ _ rfl _ _ _ rfl rfl (fun h_ => ?_) (fun h_ => ?_)) | (refine st_geq rfl _ _ _ _ rfl _ _ _ rfl rfl (fun h_ => ?_) (fun h_ => ?_)) | (refine st_eql rfl _ _ _ _ rfl _ _ _ rfl rfl (fun h_ => ?_) (fun h_ => ?_)) | (refine st_neq rfl _ _ _ _ rfl _ _ _ rfl rfl (fun h_ => ?_) (fun h_ => ?_))) <;> go_prune))
          refine wp_region_typed (fun i__ v w => match i__ with
            | 0 => v = .slice (some ⟨g, 0, none⟩) n cap
            | 1 => v = .int .i64 ((j : Nat) : Int)
            | 2 => v = .pointer (some ⟨g, 0 + (j) * 2, none⟩)
            | 3 => v = .agg #[.int .i64 ((M.getD j (0, 0)).1 : Nat), .int .i64 ((M.getD j (0, 0)).2 : Nat)]
            | 4 => v = .slice (some ⟨g, 0, none⟩) n cap
            | 5 => v = .int .i64 ((j : Nat) : Int)
            | 6 => v = .int .i64 (((j : Nat) : Int) - (1 : Int))
            | 7 => v = .pointer (some ⟨g, 0 + (j - 1) * 2, none⟩)
            | 8 => v = .agg #[.int .i64 ((M.getD (j - 1) (0, 0)).1 : Nat), .int .i64 ((M.getD (j - 1) (0, 0)).2 : Nat)]
            | 9 => v = .bool (decide (M.getD j (0, 0) = M.getD (j - 1) (0, 0)))
            | _ => True) (by kernel_rfl) (by kernel_rfl) ?mono ⟨?r0, ?r1, ?r2, ?r3, ?r4, ?r5, ?r6, ?r7, ?r8, ?r9, trivial⟩ ?post
          case mono =>
            intro i v w w' h hb
            match i, h with
            | 0, h => exact h
            | 1, h => exact h
            | 2, h => exact h
            | 3, h => exact h
            | 4, h => exact h
            | 5, h => exact h
            | 6, h => exact h
            | 7, h => exact h
            | 8, h => exact h
            | 9, h => exact h
            | _ + 10, h => trivial
          case r0 =>
            refine trule fun b__ w hW hold hpre => ⟨fun hwant K hK => ?_, fun hwant => ?_⟩
            · clear hwant
              have e0 : b__.eval (.tmp 0) = .slice (some ⟨g, 0, none⟩) n cap := (hold 0 (by kernel_rfl)).trans rfl
              exact opw_move rfl e0 (hK _ _ rfl (Below.refl _ _))
            · rw [want_none rfl] at hwant; cases hwant
          case r1 =>
            refine trule fun b__ w hW hold hpre => ⟨fun hwant K hK => ?_, fun hwant => ?_⟩
            · clear hwant
              have e3 : b__.eval (.tmp 3) = .int .i64 ((j : Nat) : Int) := (hold 3 (by kernel_rfl)).trans rfl
              exact opw_move rfl e3 (hK _ _ rfl (Below.refl _ _))
            · rw [want_none rfl] at hwant; cases hwant
          case r2 =>
            refine trule fun b__ w hW hold hpre => ⟨fun hwant K hK => ?_, fun hwant => ?_⟩
            · clear hwant
              have e16 : b__.eval (.tmp 16) = .slice (some ⟨g, 0, none⟩) n cap := hpre ⟨0, _⟩ (Array.mem_of_getElem? (i := 0) rfl) rfl _ _ rfl rfl
              have e17 : b__.eval (.tmp 17) = .int .i64 ((j : Nat) : Int) := hpre ⟨1, _⟩ (Array.mem_of_getElem? (i := 1) rfl) rfl _ _ rfl rfl
              exact opw_iaddr rfl e16 e17 (run_iaddr_lit (m := j) Tryd.underlying62 (by kernel_rfl) (by omega) (by omega)) (hK _ _ rfl (Below.refl _ _))
            · rw [want_none rfl] at hwant; cases hwant
          case r3 =>
            refine trule fun b__ w hW hold hpre => ⟨fun hwant K hK => ?_, fun hwant => ?_⟩
            · clear hwant
              have e18 : b__.eval (.tmp 18) = .pointer (some ⟨g, 0 + (j) * 2, none⟩) := hpre ⟨2, _⟩ (Array.mem_of_getElem? (i := 0) rfl) rfl _ _ rfl rfl
              exact opw_mid (cs := [_, _]) rfl e18 (by rw [Nat.zero_add]; exact own_pair ((hS.ext (undrew hW)).own 0 rfl) (by omega)) Tryd.underlying63 rfl (by kernel_rfl) (hK _ _ rfl (Below.refl _ _))
            · rw [want_none rfl] at hwant; cases hwant
          case r4 =>
            refine trule fun b__ w hW hold hpre => ⟨fun hwant K hK => ?_, fun hwant => ?_⟩
            · clear hwant
              have e0 : b__.eval (.tmp 0) = .slice (some ⟨g, 0, none⟩) n cap := (hold 0 (by kernel_rfl)).trans rfl
              exact opw_move rfl e0 (hK _ _ rfl (Below.refl _ _))
            · rw [want_none rfl] at hwant; cases hwant
          case r5 =>
            refine trule fun b__ w hW hold hpre => ⟨fun hwant K hK => ?_, fun hwant => ?_⟩
            · clear hwant
              have e3 : b__.eval (.tmp 3) = .int .i64 ((j : Nat) : Int) := (hold 3 (by kernel_rfl)).trans rfl
              exact opw_move rfl e3 (hK _ _ rfl (Below.refl _ _))
            · rw [want_none rfl] at hwant; cases hwant
          case r6 =>
            refine trule fun b__ w hW hold hpre => ⟨fun hwant K hK => ?_, fun hwant => ?_⟩
            · clear hwant
              have e21 : b__.eval (.tmp 21) = .int .i64 ((j : Nat) : Int) := hpre ⟨5, _⟩ (Array.mem_of_getElem? (i := 0) rfl) rfl _ _ rfl rfl
              exact opw_bin (vx := .int .i64 ((j : Nat) : Int)) (vy := .int .i64 (1 : Int)) (v := .int .i64 (((j : Nat) : Int) - (1 : Int))) rfl e21 rfl rfl (run_sub64 (by omega) (by omega)) (hK _ _ rfl (Below.refl _ _))
            · rw [want_none rfl] at hwant; cases hwant
          case r7 =>
            refine trule fun b__ w hW hold hpre => ⟨fun hwant K hK => ?_, fun hwant => ?_⟩
            · clear hwant
              have e20 : b__.eval (.tmp 20) = .slice (some ⟨g, 0, none⟩) n cap := hpre ⟨4, _⟩ (Array.mem_of_getElem? (i := 0) rfl) rfl _ _ rfl rfl
              have e22 : b__.eval (.tmp 22) = .int .i64 (((j : Nat) : Int) - (1 : Int)) := hpre ⟨6, _⟩ (Array.mem_of_getElem? (i := 1) rfl) rfl _ _ rfl rfl
              exact opw_iaddr rfl e20 e22 (run_iaddr_lit (m := j - 1) Tryd.underlying62 (by kernel_rfl) (by omega) (by omega)) (hK _ _ rfl (Below.refl _ _))
            · rw [want_none rfl] at hwant; cases hwant
          case r8 =>
            refine trule fun b__ w hW hold hpre => ⟨fun hwant K hK => ?_, fun hwant => ?_⟩
            · clear hwant
              have e23 : b__.eval (.tmp 23) = .pointer (some ⟨g, 0 + (j - 1) * 2, none⟩) := hpre ⟨7, _⟩ (Array.mem_of_getElem? (i := 0) rfl) rfl _ _ rfl rfl
              exact opw_mid (cs := [_, _]) rfl e23 (by rw [Nat.zero_add]; exact own_pair ((hS.ext (undrew hW)).own 0 rfl) (by omega)) Tryd.underlying63 rfl (by kernel_rfl) (hK _ _ rfl (Below.refl _ _))
            · rw [want_none rfl] at hwant; cases hwant
          case r9 =>
            refine trule fun b__ w hW hold hpre => ⟨fun hwant K hK => ?_, fun hwant => ?_⟩
            · clear hwant
              have e19 : b__.eval (.tmp 19) = .agg #[.int .i64 ((M.getD j (0, 0)).1 : Nat), .int .i64 ((M.getD j (0, 0)).2 : Nat)] := hpre ⟨3, _⟩ (Array.mem_of_getElem? (i := 0) rfl) rfl _ _ rfl rfl
              have e24 : b__.eval (.tmp 24) = .agg #[.int .i64 ((M.getD (j - 1) (0, 0)).1 : Nat), .int .i64 ((M.getD (j - 1) (0, 0)).2 : Nat)] := hpre ⟨8, _⟩ (Array.mem_of_getElem? (i := 1) rfl) rfl _ _ rfl rfl
              exact opw_bin (vx := .agg #[.int .i64 ((M.getD j (0, 0)).1 : Nat), .int .i64 ((M.getD j (0, 0)).2 : Nat)]) (vy := .agg #[.int .i64 ((M.getD (j - 1) (0, 0)).1 : Nat), .int .i64 ((M.getD (j - 1) (0, 0)).2 : Nat)]) (v := .bool (decide (M.getD j (0, 0) = M.getD (j - 1) (0, 0)))) rfl e19 e24 rfl (eq_pairs _ _ _) (hK _ _ rfl (Below.refl _ _))
            · rw [want_none rfl] at hwant; cases hwant
          case post =>
            intro b__ wz hW hdf hsz hold hT
            have e16 : b__.eval (.tmp 16) = .slice (some ⟨g, 0, none⟩) n cap := hT 0 _ 16 rfl rfl
            have e17 : b__.eval (.tmp 17) = .int .i64 ((j : Nat) : Int) := hT 1 _ 17 rfl rfl
            have e18 : b__.eval (.tmp 18) = .pointer (some ⟨g, 0 + (j) * 2, none⟩) := hT 2 _ 18 rfl rfl
            have e19 : b__.eval (.tmp 19) = .agg #[.int .i64 ((M.getD j (0, 0)).1 : Nat), .int .i64 ((M.getD j (0, 0)).2 : Nat)] := hT 3 _ 19 rfl rfl
            have e20 : b__.eval (.tmp 20) = .slice (some ⟨g, 0, none⟩) n cap := hT 4 _ 20 rfl rfl
            have e21 : b__.eval (.tmp 21) = .int .i64 ((j : Nat) : Int) := hT 5 _ 21 rfl rfl
            have e22 : b__.eval (.tmp 22) = .int .i64 (((j : Nat) : Int) - (1 : Int)) := hT 6 _ 22 rfl rfl
            have e23 : b__.eval (.tmp 23) = .pointer (some ⟨g, 0 + (j - 1) * 2, none⟩) := hT 7 _ 23 rfl rfl
            have e24 : b__.eval (.tmp 24) = .agg #[.int .i64 ((M.getD (j - 1) (0, 0)).1 : Nat), .int .i64 ((M.getD (j - 1) (0, 0)).2 : Nat)] := hT 8 _ 24 rfl rfl
            have e25 : b__.eval (.tmp 25) = .bool (decide (M.getD j (0, 0) = M.getD (j - 1) (0, 0))) := hT 9 _ 25 rfl rfl
            obtain ⟨vs, hvs, hb⟩ := frame_of hdf hsz hold
            replace e16 : vs 16 = .slice (some ⟨g, 0, none⟩) n cap := (hvs 16).symm.trans e16
            replace e17 : vs 17 = .int .i64 ((j : Nat) : Int) := (hvs 17).symm.trans e17
            replace e18 : vs 18 = .pointer (some ⟨g, 0 + (j) * 2, none⟩) := (hvs 18).symm.trans e18
            replace e19 : vs 19 = .agg #[.int .i64 ((M.getD j (0, 0)).1 : Nat), .int .i64 ((M.getD j (0, 0)).2 : Nat)] := (hvs 19).symm.trans e19
            replace e20 : vs 20 = .slice (some ⟨g, 0, none⟩) n cap := (hvs 20).symm.trans e20
            replace e21 : vs 21 = .int .i64 ((j : Nat) : Int) := (hvs 21).symm.trans e21
            replace e22 : vs 22 = .int .i64 (((j : Nat) : Int) - (1 : Int)) := (hvs 22).symm.trans e22
            replace e23 : vs 23 = .pointer (some ⟨g, 0 + (j - 1) * 2, none⟩) := (hvs 23).symm.trans e23
            replace e24 : vs 24 = .agg #[.int .i64 ((M.getD (j - 1) (0, 0)).1 : Nat), .int .i64 ((M.getD (j - 1) (0, 0)).2 : Nat)] := (hvs 24).symm.trans e24
            replace e25 : vs 25 = .bool (decide (M.getD j (0, 0) = M.getD (j - 1) (0, 0))) := (hvs 25).symm.trans e25
            subst hb
            clear hvs hold hT hdf hsz
            simp only [setAll, Act.put, List.setIfInBounds_toArray, List.set_cons_zero, List.set_cons_succ, List.getElem_toArray, List.getElem_cons_succ, List.getElem_cons_zero]
            replace hS := hS.ext hW
            rw [e25, decide_eq_true hx]
            clear hW e25 e1 hx HC e16 e17 e18 e19 e20 e21 e22 e23 e24
            go_wp2_with (first | ((with_reducible show wpList _ _ _ (⟨_, .binOp _ _ _ _ _, _, _, _, _⟩ :: _) _ _); (first | (refine st_lss rfl _ _ _ _ rfl _ _ _ rfl rfl (fun h_ => ?_) (fun h_ => ?_)) | (refine st_leq rfl _ _ _ _ rfl _ _ _ rfl rfl (fun h_ => ?_) (fun h_ => ?_)) | (refine st_gtr rfl _ _ _ _ rfl _ _ _ rfl rfl (fun h_ => ?_) (fun h_ => ?_)) | (refine st_geq rfl _ _ _ _ rfl _ _ _ rfl rfl (fun h_ => ?_) (fun h_ => ?_)) | (refine st_eql rfl _ _ _ _ rfl _ _ _ rfl rfl (fun h_ => ?_) (fun h_ => ?_)) | (refine st_neq rfl _ _ _ _ rfl _ _ _ rfl rfl (fun h_ => ?_) (fun h_ => ?_))) <;> go_prune))
            have hCl : (M.take j).length = j := by rw [List.length_take]; omega
            go_loopw [3, 5] (fun i kv wr => ∃ (k : Nat) (R C : List (Nat × Nat)), 1 ≤ k ∧ k ≤ n - j ∧ i = .int .i64 (C.length : Nat) ∧ kv = .int .i64 (k : Nat) ∧ C.length ≤ j + k - 1 ∧ R.length = n ∧ Hid (Cmp M C (j + k) ∧ R.take C.length = C ∧ ∀ t, j + k - 1 ≤ t → R.getD t (0, 0) = M.getD t (0, 0)) ∧ St w0 wr (.own (.slice (some ⟨g, 0, none⟩) n cap) 63 2 n (pcells R) :: F0) K) (fun _ kv _ => n - j - (intOf kv).toNat)
            case atStart => exact ⟨1, M, M.take j, by omega, by omega, by rw [hCl], rfl, by omega, hl, Lib.hid ⟨HC2.out, by rw [hCl], fun _ _ => rfl⟩, hS⟩
            case round =>
              clear hS HC2 hCl
              obtain ⟨k, R, C, hk1, hk, rfl, rfl, hCl, hR, HI, hS⟩ := hrel
              by_cases hkj : k < n - j
              · have e2 := Lib.hid (fun w => ne_pairs w (R.getD (j + k) (0, 0)) (R.getD (j + k - 1) (0, 0)))
                have HE1 := Lib.hid (HI.out.2.2 (j + k) (by omega))
                have HE2 := Lib.hid (HI.out.2.2 (j + k - 1) (by omega))
                by_cases hx : R.getD (j + k) (0, 0) = R.getD (j + k - 1) (0, 0)
                · have HI2 := Lib.hid (show Cmp M C (j + (k + 1)) ∧ R.take C.length = C ∧ ∀ t, j + (k + 1) - 1 ≤ t → R.getD t (0, 0) = M.getD t (0, 0) from ⟨HI.out.1.same (by omega) (by omega) (by rw [← HE1.out, ← HE2.out]; exact hx), HI.out.2.1, fun t ht => HI.out.2.2 t (by omega)⟩)
                  clear HI HE1 HE2
                  go_wp2_with (first | ((with_reducible show wpList _ _ _ (⟨_, .binOp _ _ _ _ _, _, _, _, _⟩ :: _) _ _); (first | (refine st_lss rfl _ _ _ _ rfl _ _ _ rfl rfl (fun h_ => ?_) (fun h_ => ?_)) | (refine st_leq rfl _ _ _ _ rfl _ _ _ rfl rfl (fun h_ => ?_) (fun h_ => ?_)) | (refine st_gtr rfl _ _ _ _ rfl _ _ _ rfl rfl (fun h_ => ?_) (fun h_ => ?_)) | (refine st_geq rfl _ _ _ _ rfl _ _ _ rfl rfl (fun h_ => ?_) (fun h_ => ?_)) | (refine st_eql rfl _ _ _ _ rfl _ _ _ rfl rfl (fun h_ => ?_) (fun h_ => ?_)) | (refine st_neq rfl _ _ _ _ rfl _ _ _ rfl rfl (fun h_ => ?_) (fun h_ => ?_))) <;> go_prune))
                  refine wp_region_typed (fun i__ v w => match i__ with
                    | 0 => v = .slice (some ⟨g, j * 2, none⟩) (n - j) (cap - j)
                    | 1 => v = .int .i64 ((k : Nat) : Int)
                    | 2 => v = .pointer (some ⟨g, j * 2 + (k) * 2, none⟩)
                    | 3 => v = .agg #[.int .i64 ((R.getD (j + k) (0, 0)).1 : Nat), .int .i64 ((R.getD (j + k) (0, 0)).2 : Nat)]
                    | 4 => v = .slice (some ⟨g, j * 2, none⟩) (n - j) (cap - j)
                    | 5 => v = .int .i64 ((k : Nat) : Int)
                    | 6 => v = .int .i64 (((k : Nat) : Int) - (1 : Int))
                    | 7 => v = .pointer (some ⟨g, j * 2 + (k - 1) * 2, none⟩)
                    | 8 => v = .agg #[.int .i64 ((R.getD (j + k - 1) (0, 0)).1 : Nat), .int .i64 ((R.getD (j + k - 1) (0, 0)).2 : Nat)]
                    | 9 => v = .bool (decide (R.getD (j + k) (0, 0) ≠ R.getD (j + k - 1) (0, 0)))
                    | _ => True) (by kernel_rfl) (by kernel_rfl) ?mono ⟨?r0, ?r1, ?r2, ?r3, ?r4, ?r5, ?r6, ?r7, ?r8, ?r9, trivial⟩ ?post
                  case mono =>
                    intro i v w w' h hb
                    match i, h with
                    | 0, h => exact h
                    | 1, h => exact h
                    | 2, h => exact h
                    | 3, h => exact h
                    | 4, h => exact h
                    | 5, h => exact h
                    | 6, h => exact h
                    | 7, h => exact h
                    | 8, h => exact h
                    | 9, h => exact h
                    | _ + 10, h => trivial
                  case r0 =>
                    refine trule fun b__ w hW hold hpre => ⟨fun hwant K hK => ?_, fun hwant => ?_⟩
                    · clear hwant
                      have e4 : b__.eval (.tmp 4) = .slice (some ⟨g, j * 2, none⟩) (n - j) (cap - j) := (hold 4 (by kernel_rfl)).trans rfl
                      exact opw_move rfl e4 (hK _ _ rfl (Below.refl _ _))
                    · rw [want_none rfl] at hwant; cases hwant
                  case r1 =>
                    refine trule fun b__ w hW hold hpre => ⟨fun hwant K hK => ?_, fun hwant => ?_⟩
                    · clear hwant
                      have e5 : b__.eval (.tmp 5) = .int .i64 ((k : Nat) : Int) := (hold 5 (by kernel_rfl)).trans rfl
                      exact opw_move rfl e5 (hK _ _ rfl (Below.refl _ _))
                    · rw [want_none rfl] at hwant; cases hwant
                  case r2 =>
                    refine trule fun b__ w hW hold hpre => ⟨fun hwant K hK => ?_, fun hwant => ?_⟩
                    · clear hwant
                      have e35 : b__.eval (.tmp 35) = .slice (some ⟨g, j * 2, none⟩) (n - j) (cap - j) := hpre ⟨0, _⟩ (Array.mem_of_getElem? (i := 0) rfl) rfl _ _ rfl rfl
                      have e36 : b__.eval (.tmp 36) = .int .i64 ((k : Nat) : Int) := hpre ⟨1, _⟩ (Array.mem_of_getElem? (i := 1) rfl) rfl _ _ rfl rfl
                      exact opw_iaddr rfl e35 e36 (run_iaddr_lit (m := k) Tryd.underlying62 (by kernel_rfl) (by omega) (by omega)) (hK _ _ rfl (Below.refl _ _))
                    · rw [want_none rfl] at hwant; cases hwant
                  case r3 =>
                    refine trule fun b__ w hW hold hpre => ⟨fun hwant K hK => ?_, fun hwant => ?_⟩
                    · clear hwant
                      have e37 : b__.eval (.tmp 37) = .pointer (some ⟨g, j * 2 + (k) * 2, none⟩) := hpre ⟨2, _⟩ (Array.mem_of_getElem? (i := 0) rfl) rfl _ _ rfl rfl
                      exact opw_mid (cs := [_, _]) rfl e37 (by rw [← Nat.add_mul]; exact own_pair ((hS.ext (undrew hW)).own 0 rfl) (by omega)) Tryd.underlying63 rfl (by kernel_rfl) (hK _ _ rfl (Below.refl _ _))
                    · rw [want_none rfl] at hwant; cases hwant
                  case r4 =>
                    refine trule fun b__ w hW hold hpre => ⟨fun hwant K hK => ?_, fun hwant => ?_⟩
                    · clear hwant
                      have e4 : b__.eval (.tmp 4) = .slice (some ⟨g, j * 2, none⟩) (n - j) (cap - j) := (hold 4 (by kernel_rfl)).trans rfl
                      exact opw_move rfl e4 (hK _ _ rfl (Below.refl _ _))
                    · rw [want_none rfl] at hwant; cases hwant
                  case r5 =>
                    refine trule fun b__ w hW hold hpre => ⟨fun hwant K hK => ?_, fun hwant => ?_⟩
                    · clear hwant
                      have e5 : b__.eval (.tmp 5) = .int .i64 ((k : Nat) : Int) := (hold 5 (by kernel_rfl)).trans rfl
                      exact opw_move rfl e5 (hK _ _ rfl (Below.refl _ _))
                    · rw [want_none rfl] at hwant; cases hwant
                  case r6 =>
                    refine trule fun b__ w hW hold hpre => ⟨fun hwant K hK => ?_, fun hwant => ?_⟩
                    · clear hwant
                      have e40 : b__.eval (.tmp 40) = .int .i64 ((k : Nat) : Int) := hpre ⟨5, _⟩ (Array.mem_of_getElem? (i := 0) rfl) rfl _ _ rfl rfl
                      exact opw_bin (vx := .int .i64 ((k : Nat) : Int)) (vy := .int .i64 (1 : Int)) (v := .int .i64 (((k : Nat) : Int) - (1 : Int))) rfl e40 rfl rfl (run_sub64 (by omega) (by omega)) (hK _ _ rfl (Below.refl _ _))
                    · rw [want_none rfl] at hwant; cases hwant
                  case r7 =>
                    refine trule fun b__ w hW hold hpre => ⟨fun hwant K hK => ?_, fun hwant => ?_⟩
                    · clear hwant
                      have e39 : b__.eval (.tmp 39) = .slice (some ⟨g, j * 2, none⟩) (n - j) (cap - j) := hpre ⟨4, _⟩ (Array.mem_of_getElem? (i := 0) rfl) rfl _ _ rfl rfl
                      have e41 : b__.eval (.tmp 41) = .int .i64 (((k : Nat) : Int) - (1 : Int)) := hpre ⟨6, _⟩ (Array.mem_of_getElem? (i := 1) rfl) rfl _ _ rfl rfl
                      exact opw_iaddr rfl e39 e41 (run_iaddr_lit (m := k - 1) Tryd.underlying62 (by kernel_rfl) (by omega) (by omega)) (hK _ _ rfl (Below.refl _ _))
                    · rw [want_none rfl] at hwant; cases hwant
                  case r8 =>
                    refine trule fun b__ w hW hold hpre => ⟨fun hwant K hK => ?_, fun hwant => ?_⟩
                    · clear hwant
                      have e42 : b__.eval (.tmp 42) = .pointer (some ⟨g, j * 2 + (k - 1) * 2, none⟩) := hpre ⟨7, _⟩ (Array.mem_of_getElem? (i := 0) rfl) rfl _ _ rfl rfl
                      exact opw_mid (cs := [_, _]) rfl e42 (by rw [← Nat.add_mul, show j + (k - 1) = j + k - 1 by omega]; exact own_pair ((hS.ext (undrew hW)).own 0 rfl) (by omega)) Tryd.underlying63 rfl (by kernel_rfl) (hK _ _ rfl (Below.refl _ _))
                    · rw [want_none rfl] at hwant; cases hwant
                  case r9 =>
                    refine trule fun b__ w hW hold hpre => ⟨fun hwant K hK => ?_, fun hwant => ?_⟩
                    · clear hwant
                      have e38 : b__.eval (.tmp 38) = .agg #[.int .i64 ((R.getD (j + k) (0, 0)).1 : Nat), .int .i64 ((R.getD (j + k) (0, 0)).2 : Nat)] := hpre ⟨3, _⟩ (Array.mem_of_getElem? (i := 0) rfl) rfl _ _ rfl rfl
                      have e43 : b__.eval (.tmp 43) = .agg #[.int .i64 ((R.getD (j + k - 1) (0, 0)).1 : Nat), .int .i64 ((R.getD (j + k - 1) (0, 0)).2 : Nat)] := hpre ⟨8, _⟩ (Array.mem_of_getElem? (i := 1) rfl) rfl _ _ rfl rfl
                      exact opw_bin (vx := .agg #[.int .i64 ((R.getD (j + k) (0, 0)).1 : Nat), .int .i64 ((R.getD (j + k) (0, 0)).2 : Nat)]) (vy := .agg #[.int .i64 ((R.getD (j + k - 1) (0, 0)).1 : Nat), .int .i64 ((R.getD (j + k - 1) (0, 0)).2 : Nat)]) (v := .bool (decide (R.getD (j + k) (0, 0) ≠ R.getD (j + k - 1) (0, 0)))) rfl e38 e43 rfl (ne_pairs _ _ _) (hK _ _ rfl (Below.refl _ _))
                    · rw [want_none rfl] at hwant; cases hwant
                  case post =>
                    intro b__ wz hW hdf hsz hold hT
                    have e35 : b__.eval (.tmp 35) = .slice (some ⟨g, j * 2, none⟩) (n - j) (cap - j) := hT 0 _ 35 rfl rfl
                    have e36 : b__.eval (.tmp 36) = .int .i64 ((k : Nat) : Int) := hT 1 _ 36 rfl rfl
                    have e37 : b__.eval (.tmp 37) = .pointer (some ⟨g, j * 2 + (k) * 2, none⟩) := hT 2 _ 37 rfl rfl
                    have e38 : b__.eval (.tmp 38) = .agg #[.int .i64 ((R.getD (j + k) (0, 0)).1 : Nat), .int .i64 ((R.getD (j + k) (0, 0)).2 : Nat)] := hT 3 _ 38 rfl rfl
                    have e39 : b__.eval (.tmp 39) = .slice (some ⟨g, j * 2, none⟩) (n - j) (cap - j) := hT 4 _ 39 rfl rfl
                    have e40 : b__.eval (.tmp 40) = .int .i64 ((k : Nat) : Int) := hT 5 _ 40 rfl rfl
                    have e41 : b__.eval (.tmp 41) = .int .i64 (((k : Nat) : Int) - (1 : Int)) := hT 6 _ 41 rfl rfl
                    have e42 : b__.eval (.tmp 42) = .pointer (some ⟨g, j * 2 + (k - 1) * 2, none⟩) := hT 7 _ 42 rfl rfl
                    have e43 : b__.eval (.tmp 43) = .agg #[.int .i64 ((R.getD (j + k - 1) (0, 0)).1 : Nat), .int .i64 ((R.getD (j + k - 1) (0, 0)).2 : Nat)] := hT 8 _ 43 rfl rfl
                    have e44 : b__.eval (.tmp 44) = .bool (decide (R.getD (j + k) (0, 0) ≠ R.getD (j + k - 1) (0, 0))) := hT 9 _ 44 rfl rfl
                    obtain ⟨vs, hvs, hb⟩ := frame_of hdf hsz hold
                    replace e35 : vs 35 = .slice (some ⟨g, j * 2, none⟩) (n - j) (cap - j) := (hvs 35).symm.trans e35
                    replace e36 : vs 36 = .int .i64 ((k : Nat) : Int) := (hvs 36).symm.trans e36
                    replace e37 : vs 37 = .pointer (some ⟨g, j * 2 + (k) * 2, none⟩) := (hvs 37).symm.trans e37
                    replace e38 : vs 38 = .agg #[.int .i64 ((R.getD (j + k) (0, 0)).1 : Nat), .int .i64 ((R.getD (j + k) (0, 0)).2 : Nat)] := (hvs 38).symm.trans e38
                    replace e39 : vs 39 = .slice (some ⟨g, j * 2, none⟩) (n - j) (cap - j) := (hvs 39).symm.trans e39
                    replace e40 : vs 40 = .int .i64 ((k : Nat) : Int) := (hvs 40).symm.trans e40
                    replace e41 : vs 41 = .int .i64 (((k : Nat) : Int) - (1 : Int)) := (hvs 41).symm.trans e41
                    replace e42 : vs 42 = .pointer (some ⟨g, j * 2 + (k - 1) * 2, none⟩) := (hvs 42).symm.trans e42
                    replace e43 : vs 43 = .agg #[.int .i64 ((R.getD (j + k - 1) (0, 0)).1 : Nat), .int .i64 ((R.getD (j + k - 1) (0, 0)).2 : Nat)] := (hvs 43).symm.trans e43
                    replace e44 : vs 44 = .bool (decide (R.getD (j + k) (0, 0) ≠ R.getD (j + k - 1) (0, 0))) := (hvs 44).symm.trans e44
                    subst hb
                    clear hvs hold hT hdf hsz
                    simp only [setAll, Act.put, List.setIfInBounds_toArray, List.set_cons_zero, List.set_cons_succ, List.getElem_toArray, List.getElem_cons_succ, List.getElem_cons_zero]
                    replace hS := hS.ext hW
                    rw [e44, decide_eq_false (fun h => h hx)]
                    clear hW e44 e2 hx e35 e36 e37 e38 e39 e40 e41 e42 e43
                    go_wp2_with (first | ((with_reducible show wpList _ _ _ (⟨_, .binOp _ _ _ _ _, _, _, _, _⟩ :: _) _ _); (first | (refine st_lss rfl _ _ _ _ rfl _ _ _ rfl rfl (fun h_ => ?_) (fun h_ => ?_)) | (refine st_leq rfl _ _ _ _ rfl _ _ _ rfl rfl (fun h_ => ?_) (fun h_ => ?_)) | (refine st_gtr rfl _ _ _ _ rfl _ _ _ rfl rfl (fun h_ => ?_) (fun h_ => ?_)) | (refine st_geq rfl _ _ _ _ rfl _ _ _ rfl rfl (fun h_ => ?_) (fun h_ => ?_)) | (refine st_eql rfl _ _ _ _ rfl _ _ _ rfl rfl (fun h_ => ?_) (fun h_ => ?_)) | (refine st_neq rfl _ _ _ _ rfl _ _ _ rfl rfl (fun h_ => ?_) (fun h_ => ?_))) <;> go_prune))
                    exact ⟨⟨k + 1, R, C, by omega, by omega, rfl, by go_num, by omega, hR, HI2, hS⟩, by simp [intOf]; omega⟩
                · have HI2 := Lib.hid (show Cmp M (C ++ [R.getD (j + k) (0, 0)]) (j + (k + 1)) ∧ (R.set C.length (R.getD (j + k) (0, 0))).take (C.length + 1) = C ++ [R.getD (j + k) (0, 0)] ∧ ∀ t, j + (k + 1) - 1 ≤ t → (R.set C.length (R.getD (j + k) (0, 0))).getD t (0, 0) = M.getD t (0, 0) from by
                    refine ⟨?_, ?_, fun t ht => ?_⟩
                    · rw [HE1.out]; exact HI.out.1.step HM.out (by omega) (by omega) (by rw [← HE1.out, ← HE2.out]; exact hx)
                    · rw [pt_getD (by rw [List.length_set]; omega), List.take_set_of_le (Nat.le_refl _), HI.out.2.1]
                      simp [List.getD_eq_getElem?_getD, show C.length < R.length by omega]
                    · rw [← HI.out.2.2 t (by omega), List.getD_eq_getElem?_getD, List.getElem?_set_ne (by omega), List.getD_eq_getElem?_getD])
                  clear HI HE1 HE2
                  go_wp2_with (first | ((with_reducible show wpList _ _ _ (⟨_, .binOp _ _ _ _ _, _, _, _, _⟩ :: _) _ _); (first | (refine st_lss rfl _ _ _ _ rfl _ _ _ rfl rfl (fun h_ => ?_) (fun h_ => ?_)) | (refine st_leq rfl _ _ _ _ rfl _ _ _ rfl rfl (fun h_ => ?_) (fun h_ => ?_)) | (refine st_gtr rfl _ _ _ _ rfl _ _ _ rfl rfl (fun h_ => ?_) (fun h_ => ?_)) | (refine st_geq rfl _ _ _ _ rfl _ _ _ rfl rfl (fun h_ => ?_) (fun h_ => ?_)) | (refine st_eql rfl _ _ _ _ rfl _ _ _ rfl rfl (fun h_ => ?_) (fun h_ => ?_)) | (refine st_neq rfl _ _ _ _ rfl _ _ _ rfl rfl (fun h_ => ?_) (fun h_ => ?_))) <;> go_prune))
                  refine wp_region_typed (fun i__ v w => match i__ with
                    | 0 => v = .slice (some ⟨g, j * 2, none⟩) (n - j) (cap - j)
                    | 1 => v = .int .i64 ((k : Nat) : Int)
                    | 2 => v = .pointer (some ⟨g, j * 2 + (k) * 2, none⟩)
                    | 3 => v = .agg #[.int .i64 ((R.getD (j + k) (0, 0)).1 : Nat), .int .i64 ((R.getD (j + k) (0, 0)).2 : Nat)]
                    | 4 => v = .slice (some ⟨g, j * 2, none⟩) (n - j) (cap - j)
                    | 5 => v = .int .i64 ((k : Nat) : Int)
                    | 6 => v = .int .i64 (((k : Nat) : Int) - (1 : Int))
                    | 7 => v = .pointer (some ⟨g, j * 2 + (k - 1) * 2, none⟩)
                    | 8 => v = .agg #[.int .i64 ((R.getD (j + k - 1) (0, 0)).1 : Nat), .int .i64 ((R.getD (j + k - 1) (0, 0)).2 : Nat)]
                    | 9 => v = .bool (decide (R.getD (j + k) (0, 0) ≠ R.getD (j + k - 1) (0, 0)))
                    | _ => True) (by kernel_rfl) (by kernel_rfl) ?mono ⟨?r0, ?r1, ?r2, ?r3, ?r4, ?r5, ?r6, ?r7, ?r8, ?r9, trivial⟩ ?post
                  case mono =>
                    intro i v w w' h hb
                    match i, h with
                    | 0, h => exact h
                    | 1, h => exact h
                    | 2, h => exact h
                    | 3, h => exact h
                    | 4, h => exact h
                    | 5, h => exact h
                    | 6, h => exact h
                    | 7, h => exact h
                    | 8, h => exact h
                    | 9, h => exact h
                    | _ + 10, h => trivial
                  case r0 =>
                    refine trule fun b__ w hW hold hpre => ⟨fun hwant K hK => ?_, fun hwant => ?_⟩
                    · clear hwant
                      have e4 : b__.eval (.tmp 4) = .slice (some ⟨g, j * 2, none⟩) (n - j) (cap - j) := (hold 4 (by kernel_rfl)).trans rfl
                      exact opw_move rfl e4 (hK _ _ rfl (Below.refl _ _))
                    · rw [want_none rfl] at hwant; cases hwant
                  case r1 =>
                    refine trule fun b__ w hW hold hpre => ⟨fun hwant K hK => ?_, fun hwant => ?_⟩
                    · clear hwant
                      have e5 : b__.eval (.tmp 5) = .int .i64 ((k : Nat) : Int) := (hold 5 (by kernel_rfl)).trans rfl
                      exact opw_move rfl e5 (hK _ _ rfl (Below.refl _ _))
                    · rw [want_none rfl] at hwant; cases hwant
                  case r2 =>
                    refine trule fun b__ w hW hold hpre => ⟨fun hwant K hK => ?_, fun hwant => ?_⟩
                    · clear hwant
                      have e35 : b__.eval (.tmp 35) = .slice (some ⟨g, j * 2, none⟩) (n - j) (cap - j) := hpre ⟨0, _⟩ (Array.mem_of_getElem? (i := 0) rfl) rfl _ _ rfl rfl
                      have e36 : b__.eval (.tmp 36) = .int .i64 ((k : Nat) : Int) := hpre ⟨1, _⟩ (Array.mem_of_getElem? (i := 1) rfl) rfl _ _ rfl rfl
                      exact opw_iaddr rfl e35 e36 (run_iaddr_lit (m := k) Tryd.underlying62 (by kernel_rfl) (by omega) (by omega)) (hK _ _ rfl (Below.refl _ _))
                    · rw [want_none rfl] at hwant; cases hwant
                  case r3 =>
                    refine trule fun b__ w hW hold hpre => ⟨fun hwant K hK => ?_, fun hwant => ?_⟩
                    · clear hwant
                      have e37 : b__.eval (.tmp 37) = .pointer (some ⟨g, j * 2 + (k) * 2, none⟩) := hpre ⟨2, _⟩ (Array.mem_of_getElem? (i := 0) rfl) rfl _ _ rfl rfl
                      exact opw_mid (cs := [_, _]) rfl e37 (by rw [← Nat.add_mul]; exact own_pair ((hS.ext (undrew hW)).own 0 rfl) (by omega)) Tryd.underlying63 rfl (by kernel_rfl) (hK _ _ rfl (Below.refl _ _))
                    · rw [want_none rfl] at hwant; cases hwant
                  case r4 =>
                    refine trule fun b__ w hW hold hpre => ⟨fun hwant K hK => ?_, fun hwant => ?_⟩
                    · clear hwant
                      have e4 : b__.eval (.tmp 4) = .slice (some ⟨g, j * 2, none⟩) (n - j) (cap - j) := (hold 4 (by kernel_rfl)).trans rfl
                      exact opw_move rfl e4 (hK _ _ rfl (Below.refl _ _))
                    · rw [want_none rfl] at hwant; cases hwant
                  case r5 =>
                    refine trule fun b__ w hW hold hpre => ⟨fun hwant K hK => ?_, fun hwant => ?_⟩
                    · clear hwant
                      have e5 : b__.eval (.tmp 5) = .int .i64 ((k : Nat) : Int) := (hold 5 (by kernel_rfl)).trans rfl
                      exact opw_move rfl e5 (hK _ _ rfl (Below.refl _ _))
                    · rw [want_none rfl] at hwant; cases hwant
                  case r6 =>
                    refine trule fun b__ w hW hold hpre => ⟨fun hwant K hK => ?_, fun hwant => ?_⟩
                    · clear hwant
                      have e40 : b__.eval (.tmp 40) = .int .i64 ((k : Nat) : Int) := hpre ⟨5, _⟩ (Array.mem_of_getElem? (i := 0) rfl) rfl _ _ rfl rfl
                      exact opw_bin (vx := .int .i64 ((k : Nat) : Int)) (vy := .int .i64 (1 : Int)) (v := .int .i64 (((k : Nat) : Int) - (1 : Int))) rfl e40 rfl rfl (run_sub64 (by omega) (by omega)) (hK _ _ rfl (Below.refl _ _))
                    · rw [want_none rfl] at hwant; cases hwant
                  case r7 =>
                    refine trule fun b__ w hW hold hpre => ⟨fun hwant K hK => ?_, fun hwant => ?_⟩
                    · clear hwant
                      have e39 : b__.eval (.tmp 39) = .slice (some ⟨g, j * 2, none⟩) (n - j) (cap - j) := hpre ⟨4, _⟩ (Array.mem_of_getElem? (i := 0) rfl) rfl _ _ rfl rfl
                      have e41 : b__.eval (.tmp 41) = .int .i64 (((k : Nat) : Int) - (1 : Int)) := hpre ⟨6, _⟩ (Array.mem_of_getElem? (i := 1) rfl) rfl _ _ rfl rfl
                      exact opw_iaddr rfl e39 e41 (run_iaddr_lit (m := k - 1) Tryd.underlying62 (by kernel_rfl) (by omega) (by omega)) (hK _ _ rfl (Below.refl _ _))
                    · rw [want_none rfl] at hwant; cases hwant
                  case r8 =>
                    refine trule fun b__ w hW hold hpre => ⟨fun hwant K hK => ?_, fun hwant => ?_⟩
                    · clear hwant
                      have e42 : b__.eval (.tmp 42) = .pointer (some ⟨g, j * 2 + (k - 1) * 2, none⟩) := hpre ⟨7, _⟩ (Array.mem_of_getElem? (i := 0) rfl) rfl _ _ rfl rfl
                      exact opw_mid (cs := [_, _]) rfl e42 (by rw [← Nat.add_mul, show j + (k - 1) = j + k - 1 by omega]; exact own_pair ((hS.ext (undrew hW)).own 0 rfl) (by omega)) Tryd.underlying63 rfl (by kernel_rfl) (hK _ _ rfl (Below.refl _ _))
                    · rw [want_none rfl] at hwant; cases hwant
                  case r9 =>
                    refine trule fun b__ w hW hold hpre => ⟨fun hwant K hK => ?_, fun hwant => ?_⟩
                    · clear hwant
                      have e38 : b__.eval (.tmp 38) = .agg #[.int .i64 ((R.getD (j + k) (0, 0)).1 : Nat), .int .i64 ((R.getD (j + k) (0, 0)).2 : Nat)] := hpre ⟨3, _⟩ (Array.mem_of_getElem? (i := 0) rfl) rfl _ _ rfl rfl
                      have e43 : b__.eval (.tmp 43) = .agg #[.int .i64 ((R.getD (j + k - 1) (0, 0)).1 : Nat), .int .i64 ((R.getD (j + k - 1) (0, 0)).2 : Nat)] := hpre ⟨8, _⟩ (Array.mem_of_getElem? (i := 1) rfl) rfl _ _ rfl rfl
                      exact opw_bin (vx := .agg #[.int .i64 ((R.getD (j + k) (0, 0)).1 : Nat), .int .i64 ((R.getD (j + k) (0, 0)).2 : Nat)]) (vy := .agg #[.int .i64 ((R.getD (j + k - 1) (0, 0)).1 : Nat), .int .i64 ((R.getD (j + k - 1) (0, 0)).2 : Nat)]) (v := .bool (decide (R.getD (j + k) (0, 0) ≠ R.getD (j + k - 1) (0, 0)))) rfl e38 e43 rfl (ne_pairs _ _ _) (hK _ _ rfl (Below.refl _ _))
                    · rw [want_none rfl] at hwant; cases hwant
                  case post =>
                    intro b__ wz hW hdf hsz hold hT
                    have e35 : b__.eval (.tmp 35) = .slice (some ⟨g, j * 2, none⟩) (n - j) (cap - j) := hT 0 _ 35 rfl rfl
                    have e36 : b__.eval (.tmp 36) = .int .i64 ((k : Nat) : Int) := hT 1 _ 36 rfl rfl
                    have e37 : b__.eval (.tmp 37) = .pointer (some ⟨g, j * 2 + (k) * 2, none⟩) := hT 2 _ 37 rfl rfl
                    have e38 : b__.eval (.tmp 38) = .agg #[.int .i64 ((R.getD (j + k) (0, 0)).1 : Nat), .int .i64 ((R.getD (j + k) (0, 0)).2 : Nat)] := hT 3 _ 38 rfl rfl
                    have e39 : b__.eval (.tmp 39) = .slice (some ⟨g, j * 2, none⟩) (n - j) (cap - j) := hT 4 _ 39 rfl rfl
                    have e40 : b__.eval (.tmp 40) = .int .i64 ((k : Nat) : Int) := hT 5 _ 40 rfl rfl
                    have e41 : b__.eval (.tmp 41) = .int .i64 (((k : Nat) : Int) - (1 : Int)) := hT 6 _ 41 rfl rfl
                    have e42 : b__.eval (.tmp 42) = .pointer (some ⟨g, j * 2 + (k - 1) * 2, none⟩) := hT 7 _ 42 rfl rfl
                    have e43 : b__.eval (.tmp 43) = .agg #[.int .i64 ((R.getD (j + k - 1) (0, 0)).1 : Nat), .int .i64 ((R.getD (j + k - 1) (0, 0)).2 : Nat)] := hT 8 _ 43 rfl rfl
                    have e44 : b__.eval (.tmp 44) = .bool (decide (R.getD (j + k) (0, 0) ≠ R.getD (j + k - 1) (0, 0))) := hT 9 _ 44 rfl rfl
                    obtain ⟨vs, hvs, hb⟩ := frame_of hdf hsz hold
                    replace e35 : vs 35 = .slice (some ⟨g, j * 2, none⟩) (n - j) (cap - j) := (hvs 35).symm.trans e35
                    replace e36 : vs 36 = .int .i64 ((k : Nat) : Int) := (hvs 36).symm.trans e36
                    replace e37 : vs 37 = .pointer (some ⟨g, j * 2 + (k) * 2, none⟩) := (hvs 37).symm.trans e37
                    replace e38 : vs 38 = .agg #[.int .i64 ((R.getD (j + k) (0, 0)).1 : Nat), .int .i64 ((R.getD (j + k) (0, 0)).2 : Nat)] := (hvs 38).symm.trans e38
                    replace e39 : vs 39 = .slice (some ⟨g, j * 2, none⟩) (n - j) (cap - j) := (hvs 39).symm.trans e39
                    replace e40 : vs 40 = .int .i64 ((k : Nat) : Int) := (hvs 40).symm.trans e40
                    replace e41 : vs 41 = .int .i64 (((k : Nat) : Int) - (1 : Int)) := (hvs 41).symm.trans e41
                    replace e42 : vs 42 = .pointer (some ⟨g, j * 2 + (k - 1) * 2, none⟩) := (hvs 42).symm.trans e42
                    replace e43 : vs 43 = .agg #[.int .i64 ((R.getD (j + k - 1) (0, 0)).1 : Nat), .int .i64 ((R.getD (j + k - 1) (0, 0)).2 : Nat)] := (hvs 43).symm.trans e43
                    replace e44 : vs 44 = .bool (decide (R.getD (j + k) (0, 0) ≠ R.getD (j + k - 1) (0, 0))) := (hvs 44).symm.trans e44
                    subst hb
                    clear hvs hold hT hdf hsz
                    simp only [setAll, Act.put, List.setIfInBounds_toArray, List.set_cons_zero, List.set_cons_succ, List.getElem_toArray, List.getElem_cons_succ, List.getElem_cons_zero]
                    replace hS := hS.ext hW
                    rw [e44, decide_eq_true hx]
                    clear hW e44 e2 hx e35 e36 e37 e38 e39 e40 e41 e42 e43
                    obtain ⟨x, hxd⟩ : ∃ x, Hid (x = R.getD (j + k) (0, 0)) := ⟨_, Lib.hid rfl⟩
                    rw [← hxd.out] at HI2
                    go_wp2_with (first
                      | ((with_reducible show wpList _ _ _ (⟨_, .binOp _ _ _ _ _, _, _, _, _⟩ :: _) _ _); (first | (refine st_lss rfl _ _ _ _ rfl _ _ _ rfl rfl (fun h_ => ?_) (fun h_ => ?_)) | (refine st_leq rfl _ _ _ _ rfl _ _ _ rfl rfl (fun h_ => ?_) (fun h_ => ?_)) | (refine st_gtr rfl _ _ _ _ rfl _ _ _ rfl rfl (fun h_ => ?_) (fun h_ => ?_)) | (refine st_geq rfl _ _ _ _ rfl _ _ _ rfl rfl (fun h_ => ?_) (fun h_ => ?_)) | (refine st_eql rfl _ _ _ _ rfl _ _ _ rfl rfl (fun h_ => ?_) (fun h_ => ?_)) | (refine st_neq rfl _ _ _ _ rfl _ _ _ rfl rfl (fun h_ => ?_) (fun h_ => ?_))) <;> go_prune)
                      | ((with_reducible show wpList _ _ _ (⟨some 50, _, _, _, _, _⟩ :: _) _ _); refine BigFrame.wpList_want rfl fun _ hK => opw_mid (cs := [.int .i64 (x.1 : Nat), .int .i64 (x.2 : Nat)]) rfl rfl (by rw [← Nat.add_mul, hxd.out]; exact own_pair (hS.own 0 rfl) (by omega)) Tryd.underlying63 rfl (by kernel_rfl) (hK _ _ ?_))
                      | ((with_reducible show wpList _ _ _ (⟨_, .store _ _ _, _, _, _, _⟩ :: _) _ _); refine BigFrame.wpList_want rfl fun _ hK => opw_ostore2 (i := C.length * 2) rfl rfl rfl (hS.own 0 rfl) (by omega) rfl rfl (by kernel_rfl) fun w3 hX hU => hK _ _ ?_; replace hS := hS.upd 0 rfl (.own (.slice (some ⟨g, 0, none⟩) n cap) 63 2 n _) (upd_gb hU) hX (fun _ e => .inl e)))
                    rw [pcells_set] at hS
                    exact ⟨⟨k + 1, R.set C.length x, C ++ [x], by omega, by omega, by simp, by go_num, by simp; omega, by simp [hR], by rw [List.length_append, List.length_singleton]; exact HI2, hS⟩, by simp [intOf]; omega⟩
              · obtain rfl : k = n - j := by omega
                have HC := Lib.hid (show Cmp M C n from by have := HI.out.1; rwa [show j + (n - j) = n by omega] at this)
                have HT := Lib.hid HI.out.2.1
                obtain ⟨w2, ys, hrun, hX, hys, hG⟩ := run_clear_own (ty := 0) (c := cap - C.length) (hS.own 0 rfl) Tryd.underlying62 (Tryd.zeroValue63 wr) rfl (by simp [Value.oneCell']) (show C.length + (n - C.length) = n by omega)
                replace hS := hS.upd 0 rfl (.own (.slice (some ⟨g, 0, none⟩) C.length cap) 63 2 C.length (pcells C)) hG (by
                  have := own_short hX (show C.length ≤ n by omega)
                  rwa [hys, pcells_take, HT.out] at this) (fun _ e => .inl e)
                clear hX hG hys HI
                go_wp2_with (first | ((with_reducible show wpList _ _ _ (⟨_, .binOp _ _ _ _ _, _, _, _, _⟩ :: _) _ _); (first | (refine st_lss rfl _ _ _ _ rfl _ _ _ rfl rfl (fun h_ => ?_) (fun h_ => ?_)) | (refine st_leq rfl _ _ _ _ rfl _ _ _ rfl rfl (fun h_ => ?_) (fun h_ => ?_)) | (refine st_gtr rfl _ _ _ _ rfl _ _ _ rfl rfl (fun h_ => ?_) (fun h_ => ?_)) | (refine st_geq rfl _ _ _ _ rfl _ _ _ rfl rfl (fun h_ => ?_) (fun h_ => ?_)) | (refine st_eql rfl _ _ _ _ rfl _ _ _ rfl rfl (fun h_ => ?_) (fun h_ => ?_)) | (refine st_neq rfl _ _ _ _ rfl _ _ _ rfl rfl (fun h_ => ?_) (fun h_ => ?_))) <;> go_prune) | ((with_reducible show wpList _ _ _ (⟨_, .call _, _, _, _, _⟩ :: _) _ _); refine BigFrame.wpList_want rfl fun _ hK => opw_clear (w' := w2) rfl rfl hrun (hK _ _ ?_)))
                go_ret
                exact ⟨C, rfl, HC.out, by omega, hS⟩
        · have HC2 := Lib.hid (HC.out.step HM.out hj1 (by omega) hx)
          rw [← pt_getD (by omega)] at HC2
          go_wp2_with (first | ((with_reducible show wpList _ _ _ (⟨_, .binOp _ _ _ _ _, _, _, _, _⟩ :: _) _ _); (first | (refine st_lss rfl _ _ _ _ rfl _ _ _ rfl rfl (fun h_ => ?_) (fun h_ => ?_)) | (refine st_leq rfl _ _ _ _ rfl _ _ _ rfl rfl (fun h_ => ?_) (fun h_ => ?_)) | (refine st_gtr rfl _ _ _ _ rfl _ _ _ rfl rfl (fun h_ => ?_) (fun h_ => ?_)) | (refine st_geq rfl _ _ _ _ rfl _ _ _ rfl rfl (fun h_ => ?_) (fun h_ => ?_)) | (refine st_eql rfl _ _ _ _ rfl _ _ _ rfl rfl (fun h_ => ?_) (fun h_ => ?_)) | (refine st_neq rfl _ _ _ _ rfl _ _ _ rfl rfl (fun h_ => ?_) (fun h_ => ?_))) <;> go_prune))
          refine wp_region_typed (fun i__ v w => match i__ with
            | 0 => v = .slice (some ⟨g, 0, none⟩) n cap
            | 1 => v = .int .i64 ((j : Nat) : Int)
            | 2 => v = .pointer (some ⟨g, 0 + (j) * 2, none⟩)
            | 3 => v = .agg #[.int .i64 ((M.getD j (0, 0)).1 : Nat), .int .i64 ((M.getD j (0, 0)).2 : Nat)]
            | 4 => v = .slice (some ⟨g, 0, none⟩) n cap
            | 5 => v = .int .i64 ((j : Nat) : Int)
            | 6 => v = .int .i64 (((j : Nat) : Int) - (1 : Int))
            | 7 => v = .pointer (some ⟨g, 0 + (j - 1) * 2, none⟩)
            | 8 => v = .agg #[.int .i64 ((M.getD (j - 1) (0, 0)).1 : Nat), .int .i64 ((M.getD (j - 1) (0, 0)).2 : Nat)]
            | 9 => v = .bool (decide (M.getD j (0, 0) = M.getD (j - 1) (0, 0)))
            | _ => True) (by kernel_rfl) (by kernel_rfl) ?mono ⟨?r0, ?r1, ?r2, ?r3, ?r4, ?r5, ?r6, ?r7, ?r8, ?r9, trivial⟩ ?post
          case mono =>
            intro i v w w' h hb
            match i, h with
            | 0, h => exact h
            | 1, h => exact h
            | 2, h => exact h
            | 3, h => exact h
            | 4, h => exact h
            | 5, h => exact h
            | 6, h => exact h
            | 7, h => exact h
            | 8, h => exact h
            | 9, h => exact h
            | _ + 10, h => trivial
          case r0 =>
            refine trule fun b__ w hW hold hpre => ⟨fun hwant K hK => ?_, fun hwant => ?_⟩
            · clear hwant
              have e0 : b__.eval (.tmp 0) = .slice (some ⟨g, 0, none⟩) n cap := (hold 0 (by kernel_rfl)).trans rfl
              exact opw_move rfl e0 (hK _ _ rfl (Below.refl _ _))
            · rw [want_none rfl] at hwant; cases hwant
          case r1 =>
            refine trule fun b__ w hW hold hpre => ⟨fun hwant K hK => ?_, fun hwant => ?_⟩
            · clear hwant
              have e3 : b__.eval (.tmp 3) = .int .i64 ((j : Nat) : Int) := (hold 3 (by kernel_rfl)).trans rfl
              exact opw_move rfl e3 (hK _ _ rfl (Below.refl _ _))
            · rw [want_none rfl] at hwant; cases hwant
          case r2 =>
            refine trule fun b__ w hW hold hpre => ⟨fun hwant K hK => ?_, fun hwant => ?_⟩
            · clear hwant
              have e16 : b__.eval (.tmp 16) = .slice (some ⟨g, 0, none⟩) n cap := hpre ⟨0, _⟩ (Array.mem_of_getElem? (i := 0) rfl) rfl _ _ rfl rfl
              have e17 : b__.eval (.tmp 17) = .int .i64 ((j : Nat) : Int) := hpre ⟨1, _⟩ (Array.mem_of_getElem? (i := 1) rfl) rfl _ _ rfl rfl
              exact opw_iaddr rfl e16 e17 (run_iaddr_lit (m := j) Tryd.underlying62 (by kernel_rfl) (by omega) (by omega)) (hK _ _ rfl (Below.refl _ _))
            · rw [want_none rfl] at hwant; cases hwant
          case r3 =>
            refine trule fun b__ w hW hold hpre => ⟨fun hwant K hK => ?_, fun hwant => ?_⟩
            · clear hwant
              have e18 : b__.eval (.tmp 18) = .pointer (some ⟨g, 0 + (j) * 2, none⟩) := hpre ⟨2, _⟩ (Array.mem_of_getElem? (i := 0) rfl) rfl _ _ rfl rfl
              exact opw_mid (cs := [_, _]) rfl e18 (by rw [Nat.zero_add]; exact own_pair ((hS.ext (undrew hW)).own 0 rfl) (by omega)) Tryd.underlying63 rfl (by kernel_rfl) (hK _ _ rfl (Below.refl _ _))
            · rw [want_none rfl] at hwant; cases hwant
          case r4 =>
            refine trule fun b__ w hW hold hpre => ⟨fun hwant K hK => ?_, fun hwant => ?_⟩
            · clear hwant
              have e0 : b__.eval (.tmp 0) = .slice (some ⟨g, 0, none⟩) n cap := (hold 0 (by kernel_rfl)).trans rfl
              exact opw_move rfl e0 (hK _ _ rfl (Below.refl _ _))
            · rw [want_none rfl] at hwant; cases hwant
          case r5 =>
            refine trule fun b__ w hW hold hpre => ⟨fun hwant K hK => ?_, fun hwant => ?_⟩
            · clear hwant
              have e3 : b__.eval (.tmp 3) = .int .i64 ((j : Nat) : Int) := (hold 3 (by kernel_rfl)).trans rfl
              exact opw_move rfl e3 (hK _ _ rfl (Below.refl _ _))
            · rw [want_none rfl] at hwant; cases hwant
          case r6 =>
            refine trule fun b__ w hW hold hpre => ⟨fun hwant K hK => ?_, fun hwant => ?_⟩
            · clear hwant
              have e21 : b__.eval (.tmp 21) = .int .i64 ((j : Nat) : Int) := hpre ⟨5, _⟩ (Array.mem_of_getElem? (i := 0) rfl) rfl _ _ rfl rfl
              exact opw_bin (vx := .int .i64 ((j : Nat) : Int)) (vy := .int .i64 (1 : Int)) (v := .int .i64 (((j : Nat) : Int) - (1 : Int))) rfl e21 rfl rfl (run_sub64 (by omega) (by omega)) (hK _ _ rfl (Below.refl _ _))
            · rw [want_none rfl] at hwant; cases hwant
          case r7 =>
            refine trule fun b__ w hW hold hpre => ⟨fun hwant K hK => ?_, fun hwant => ?_⟩
            · clear hwant
              have e20 : b__.eval (.tmp 20) = .slice (some ⟨g, 0, none⟩) n cap := hpre ⟨4, _⟩ (Array.mem_of_getElem? (i := 0) rfl) rfl _ _ rfl rfl
              have e22 : b__.eval (.tmp 22) = .int .i64 (((j : Nat) : Int) - (1 : Int)) := hpre ⟨6, _⟩ (Array.mem_of_getElem? (i := 1) rfl) rfl _ _ rfl rfl
              exact opw_iaddr rfl e20 e22 (run_iaddr_lit (m := j - 1) Tryd.underlying62 (by kernel_rfl) (by omega) (by omega)) (hK _ _ rfl (Below.refl _ _))
            · rw [want_none rfl] at hwant; cases hwant
          case r8 =>
            refine trule fun b__ w hW hold hpre => ⟨fun hwant K hK => ?_, fun hwant => ?_⟩
            · clear hwant
              have e23 : b__.eval (.tmp 23) = .pointer (some ⟨g, 0 + (j - 1) * 2, none⟩) := hpre ⟨7, _⟩ (Array.mem_of_getElem? (i := 0) rfl) rfl _ _ rfl rfl
              exact opw_mid (cs := [_, _]) rfl e23 (by rw [Nat.zero_add]; exact own_pair ((hS.ext (undrew hW)).own 0 rfl) (by omega)) Tryd.underlying63 rfl (by kernel_rfl) (hK _ _ rfl (Below.refl _ _))
            · rw [want_none rfl] at hwant; cases hwant
          case r9 =>
            refine trule fun b__ w hW hold hpre => ⟨fun hwant K hK => ?_, fun hwant => ?_⟩
            · clear hwant
              have e19 : b__.eval (.tmp 19) = .agg #[.int .i64 ((M.getD j (0, 0)).1 : Nat), .int .i64 ((M.getD j (0, 0)).2 : Nat)] := hpre ⟨3, _⟩ (Array.mem_of_getElem? (i := 0) rfl) rfl _ _ rfl rfl
              have e24 : b__.eval (.tmp 24) = .agg #[.int .i64 ((M.getD (j - 1) (0, 0)).1 : Nat), .int .i64 ((M.getD (j - 1) (0, 0)).2 : Nat)] := hpre ⟨8, _⟩ (Array.mem_of_getElem? (i := 1) rfl) rfl _ _ rfl rfl
              exact opw_bin (vx := .agg #[.int .i64 ((M.getD j (0, 0)).1 : Nat), .int .i64 ((M.getD j (0, 0)).2 : Nat)]) (vy := .agg #[.int .i64 ((M.getD (j - 1) (0, 0)).1 : Nat), .int .i64 ((M.getD (j - 1) (0, 0)).2 : Nat)]) (v := .bool (decide (M.getD j (0, 0) = M.getD (j - 1) (0, 0)))) rfl e19 e24 rfl (eq_pairs _ _ _) (hK _ _ rfl (Below.refl _ _))
            · rw [want_none rfl] at hwant; cases hwant
          case post =>
            intro b__ wz hW hdf hsz hold hT
            have e16 : b__.eval (.tmp 16) = .slice (some ⟨g, 0, none⟩) n cap := hT 0 _ 16 rfl rfl
            have e17 : b__.eval (.tmp 17) = .int .i64 ((j : Nat) : Int) := hT 1 _ 17 rfl rfl
            have e18 : b__.eval (.tmp 18) = .pointer (some ⟨g, 0 + (j) * 2, none⟩) := hT 2 _ 18 rfl rfl
            have e19 : b__.eval (.tmp 19) = .agg #[.int .i64 ((M.getD j (0, 0)).1 : Nat), .int .i64 ((M.getD j (0, 0)).2 : Nat)] := hT 3 _ 19 rfl rfl
            have e20 : b__.eval (.tmp 20) = .slice (some ⟨g, 0, none⟩) n cap := hT 4 _ 20 rfl rfl
            have e21 : b__.eval (.tmp 21) = .int .i64 ((j : Nat) : Int) := hT 5 _ 21 rfl rfl
            have e22 : b__.eval (.tmp 22) = .int .i64 (((j : Nat) : Int) - (1 : Int)) := hT 6 _ 22 rfl rfl
            have e23 : b__.eval (.tmp 23) = .pointer (some ⟨g, 0 + (j - 1) * 2, none⟩) := hT 7 _ 23 rfl rfl
            have e24 : b__.eval (.tmp 24) = .agg #[.int .i64 ((M.getD (j - 1) (0, 0)).1 : Nat), .int .i64 ((M.getD (j - 1) (0, 0)).2 : Nat)] := hT 8 _ 24 rfl rfl
            have e25 : b__.eval (.tmp 25) = .bool (decide (M.getD j (0, 0) = M.getD (j - 1) (0, 0))) := hT 9 _ 25 rfl rfl
            obtain ⟨vs, hvs, hb⟩ := frame_of hdf hsz hold
            replace e16 : vs 16 = .slice (some ⟨g, 0, none⟩) n cap := (hvs 16).symm.trans e16
            replace e17 : vs 17 = .int .i64 ((j : Nat) : Int) := (hvs 17).symm.trans e17
            replace e18 : vs 18 = .pointer (some ⟨g, 0 + (j) * 2, none⟩) := (hvs 18).symm.trans e18
            replace e19 : vs 19 = .agg #[.int .i64 ((M.getD j (0, 0)).1 : Nat), .int .i64 ((M.getD j (0, 0)).2 : Nat)] := (hvs 19).symm.trans e19
            replace e20 : vs 20 = .slice (some ⟨g, 0, none⟩) n cap := (hvs 20).symm.trans e20
            replace e21 : vs 21 = .int .i64 ((j : Nat) : Int) := (hvs 21).symm.trans e21
            replace e22 : vs 22 = .int .i64 (((j : Nat) : Int) - (1 : Int)) := (hvs 22).symm.trans e22
            replace e23 : vs 23 = .pointer (some ⟨g, 0 + (j - 1) * 2, none⟩) := (hvs 23).symm.trans e23
            replace e24 : vs 24 = .agg #[.int .i64 ((M.getD (j - 1) (0, 0)).1 : Nat), .int .i64 ((M.getD (j - 1) (0, 0)).2 : Nat)] := (hvs 24).symm.trans e24
            replace e25 : vs 25 = .bool (decide (M.getD j (0, 0) = M.getD (j - 1) (0, 0))) := (hvs 25).symm.trans e25
            subst hb
            clear hvs hold hT hdf hsz
            simp only [setAll, Act.put, List.setIfInBounds_toArray, List.set_cons_zero, List.set_cons_succ, List.getElem_toArray, List.getElem_cons_succ, List.getElem_cons_zero]
            replace hS := hS.ext hW
            rw [e25, decide_eq_false hx]
            clear hW e25 e1 hx e16 e17 e18 e19 e20 e21 e22 e23 e24
            go_wp2_with (first | ((with_reducible show wpList _ _ _ (⟨_, .binOp _ _ _ _ _, _, _, _, _⟩ :: _) _ _); (first | (refine st_lss rfl _ _ _ _ rfl _ _ _ rfl rfl (fun h_ => ?_) (fun h_ => ?_)) | (refine st_leq rfl _ _ _ _ rfl _ _ _ rfl rfl (fun h_ => ?_) (fun h_ => ?_)) | (refine st_gtr rfl _ _ _ _ rfl _ _ _ rfl rfl (fun h_ => ?_) (fun h_ => ?_)) | (refine st_geq rfl _ _ _ _ rfl _ _ _ rfl rfl (fun h_ => ?_) (fun h_ => ?_)) | (refine st_eql rfl _ _ _ _ rfl _ _ _ rfl rfl (fun h_ => ?_) (fun h_ => ?_)) | (refine st_neq rfl _ _ _ _ rfl _ _ _ rfl rfl (fun h_ => ?_) (fun h_ => ?_))) <;> go_prune))
            exact ⟨⟨j + 1, by omega, hlj, by go_num, HC2, hS⟩, by simp [intOf]; omega⟩
      · obtain rfl : j = n := by omega
        go_wp2_with (first | ((with_reducible show wpList _ _ _ (⟨_, .binOp _ _ _ _ _, _, _, _, _⟩ :: _) _ _); (first | (refine st_lss rfl _ _ _ _ rfl _ _ _ rfl rfl (fun h_ => ?_) (fun h_ => ?_)) | (refine st_leq rfl _ _ _ _ rfl _ _ _ rfl rfl (fun h_ => ?_) (fun h_ => ?_)) | (refine st_gtr rfl _ _ _ _ rfl _ _ _ rfl rfl (fun h_ => ?_) (fun h_ => ?_)) | (refine st_geq rfl _ _ _ _ rfl _ _ _ rfl rfl (fun h_ => ?_) (fun h_ => ?_)) | (refine st_eql rfl _ _ _ _ rfl _ _ _ rfl rfl (fun h_ => ?_) (fun h_ => ?_)) | (refine st_neq rfl _ _ _ _ rfl _ _ _ rfl rfl (fun h_ => ?_) (fun h_ => ?_))) <;> go_prune))
        go_ret
        have hM : M.take j = M := by rw [← hl, List.take_length]
        rw [hM] at HC
        subst hl
        exact ⟨M, rfl, HC.out, Nat.le_refl _, hS⟩
end Go.Proofs.YtihpgmbinhmmlaaDoor
namespace Go.Proofs.YtihpgmbinhmmlaaDoor
open Go.RowKit
attribute [local go_sem ↓] Go.wp_at_zero Go.wp_at_succ
set_option maxRecDepth 20000
set_option exponentiation.threshold 5000

theorem clip_any (A : Option Addr) (n c : Nat) (hc : n ≤ c) (hm : c ≤ 9223372036854775807) (w : World) : Calls Tryd.prog 29 #[.slice A n c] w fun e w' => e = .returned (.slice A n n) ∧ w' = w := by
  go_enter Tryd.func29, Tryd.ntmps29
  go_wp2_with fail
  go_ret
  exact ⟨rfl, rfl⟩
theorem own_cap {w : World} {base g size n cap : Nat} {e : TypeId} {xs : List Value} (h : w.ownsRow base e size (.slice (some ⟨g, 0, none⟩) n cap) n xs) : n ≤ cap ∧ cap ≤ 9223372036854775807 := by
  obtain ⟨A, c, he, h1, h2⟩ := own_shp h
  injection he with _ _ he
  subst he
  exact ⟨h1, h2⟩
theorem sl_clip {w : World} {D : Nat → Prop} {size n c : Nat} {A : Option Addr} {xs : List Value} (h : Sl w D size (.slice A n c) n xs) : Sl w D size (.slice A n n) n xs := by
  obtain ⟨h1, A2, c2, h2, h3, h4, h5⟩ := h
  injection h2 with h2 h6 h7
  subst h2
  exact ⟨h1, A, n, rfl, Nat.le_refl _, Nat.le_trans h3 h4, h5⟩
def IsBox (w : World) (D : Nat → Prop) (g : Nat) (cs : Array Value) : Prop := D g ∧ g < w.heap.size ∧ 0 < cs.size ∧ ∀ j x, cs[j]? = some x → w.cell? ⟨g, j, none⟩ = some x
theorem stable_isBox {g : Nat} {cs : Array Value} : Stable fun D w => IsBox w D g cs := fun D D' w w' h a b c => by
  obtain ⟨h1, h2, h3, h4⟩ := h
  have h5 : cs[0]? = some (cs[0]'h3) := Array.getElem?_eq_getElem h3
  exact ⟨c g h1 h2 (cell_is (h4 0 _ h5)), Nat.lt_of_lt_of_le h2 a, h3, fun j x hj => b _ x h1 h2 (h4 j x hj)⟩
theorem IsBox.cell {w : World} {D : Nat → Prop} {g : Nat} {cs : Array Value} (h : IsBox w D g cs) (j : Nat) {x : Value} (hx : cs[j]? = some x) : w.cell? ⟨g, j, none⟩ = some x := h.2.2.2 j x hx
theorem St.sealB {w0 w : World} {F : List Fact} {K : (Nat → Prop) → World → Prop} (h : St w0 w F K) (i : Nat) {g : Nat} {t : TypeId} {cs : Array Value} (h0 : 0 < cs.size) (hi : F[i]? = some (.box g t cs)) : St w0 w (F.eraseIdx i) fun D w => K D w ∧ IsBox w D g cs := by
  have hlt := (List.getElem?_eq_some_iff.1 hi).1
  have hfF : Fact.box g t cs ∈ F := List.mem_of_getElem? hi
  have hbx := h.box i hi
  refine (h.sub (List.eraseIdx_sublist _ _)).add (D := fun b => b = g) stable_isBox ⟨rfl, hbx.lt, h0, fun j x hj => (hbx.cell j).trans hj⟩ fun b hb _ f hf e => ?_
  obtain ⟨j, hj⟩ := List.mem_iff_getElem?.1 hf
  rw [List.getElem?_eraseIdx] at hj
  have e1 : F[i] = Fact.box g t cs := (List.getElem?_eq_some_iff.1 hi).2
  have hb' : some b = some g := by rw [hb]
  split at hj
  · have := List.pairwise_iff_getElem.1 h.apart j i (by omega) hlt (by omega) b (by rw [(List.getElem?_eq_some_iff.1 hj).2]; exact e)
    rw [e1] at this; exact this hb'.symm
  · have hjl := (List.getElem?_eq_some_iff.1 hj).1
    have := List.pairwise_iff_getElem.1 h.apart i (j + 1) hlt hjl (by omega) b (by rw [e1]; exact hb'.symm)
    rw [(List.getElem?_eq_some_iff.1 hj).2] at this; exact this e
theorem set_same {α : Type} {l : List α} {i : Nat} {x : α} (h : l[i]? = some x) : l.set i x = l := by
  obtain ⟨h1, h2⟩ := List.getElem?_eq_some_iff.1 h
  subst h2
  exact List.set_getElem_self h1
theorem st_appf {P : Program} {ops : Array Oper} {rest : List Oper} {o : Oper} {a : Act} {Q : Exit → Act → World → Prop} {w0 w : World} {F : List Fact} {K : (Nat → Prop) → World → Prop} (h : St w0 w F K) (i : Nat) (hg : o.guard = none) (s x : Operand) (t : TypeId) (ho : o.op = .call { callee := .builtin .append, args := #[s, x], argTypes := #[t, t] }) {e : TypeId} {size bytes : Nat} (hT : SliceTy P t e size bytes)
    (g : Nat) (hs : a.eval s = .slice (some ⟨g, 0, none⟩) 0 0) (hb : F[i]? = some (.own (.slice (some ⟨g, 0, none⟩) 0 0) e size 0 [])) (D : Nat → Prop) (y : Value) (m : Nat) (news : List Value) (hx : a.eval x = y) (hr : Sl w D size y m news)
    (h1 : ∀ u ∈ news, u.oneCell' = true) (hm : m ≤ 1000000000000) (hbytes : m * bytes ≤ 140737488355328)
    (hk : ∀ g' c w', St w0 w' (F.set i (.own (.slice (some ⟨g', 0, none⟩) m c) e size m news)) K → wpList P ops Q rest (a.put o.dst (.slice (some ⟨g', 0, none⟩) m c)) w') : wpList P ops Q (o :: rest) a w := by
  rcases Nat.eq_zero_or_pos m with h0 | h0
  · subst h0
    obtain ⟨j, z, hi, hz, h2, h3, h4, h5⟩ := hT.get
    obtain ⟨hl, A, c, rfl, _, _, hc⟩ := hr
    have hn : news = [] := List.eq_nil_of_length_eq_zero (by simpa using hl)
    subst hn
    have hrun : (Builtin.append_ #[t, t] o.type #[.slice (some ⟨g, 0, none⟩) 0 0, .slice A 0 c]).run P w = .ok (.slice (some ⟨g, 0, none⟩) 0 0) w := by
      cases A with
      | none => simp [Builtin.append_, run_underlying hT.under, sizeOf, typeInfo, hi, Builtin.lenOf, Builtin.firstCells, storeCells]
      | some ad => simp [Builtin.append_, run_underlying hT.under, sizeOf, typeInfo, hi, Builtin.lenOf, Builtin.firstCells, storeCells, loadCells, loadCellsFrom]
    refine wpList_plain hg fun _ hK => ?_
    unfold Oper.wp execOp
    simp only [ho, resolve, invoke, builtin, Sem.run_bind, Sem.run_pure, Result.andThen_ok, List.map_toArray, List.map_cons, List.map_nil, hs, hx, hrun]
    refine hK _ _ (hk g 0 w ?_)
    rw [set_same hb]
    exact h
  · refine st_app h i hg s x t ho hT _ 0 [] hs hb D y m news hx hr h1 (by unfold maxLen; omega) (by rw [Nat.zero_add]; exact hbytes) fun v' w' hS => ?_
    rw [Nat.zero_add, List.nil_append] at hS
    have hlt := (List.getElem?_eq_some_iff.1 hb).1
    obtain ⟨g', c', rfl, _, _⟩ := own_pos (hS.own i (by rw [List.getElem?_set_self hlt])) h0
    exact hk _ _ _ hS
def OrdX (q : Nat) (gp : Nat) (av bv sv : Value) (xa xb : List Value) (n : Nat) (L : List (Nat × Nat)) (D : Nat → Prop) (w : World) : Prop :=
  IsBox w D q #[.int .i64 (n : Nat), .slice (some ⟨gp, 0, none⟩) L.length L.length, av, bv, sv] ∧ Sl w D 2 (.slice (some ⟨gp, 0, none⟩) L.length L.length) L.length (pcells L) ∧ (Sl w D 1 av n xa ∧ SetsX xa n (aboveM n L) D w) ∧ (Sl w D 1 bv n xb ∧ SetsX xb n (belowM n L) D w)
theorem stable_ordX {q gp : Nat} {av bv sv : Value} {xa xb : List Value} {n : Nat} {L : List (Nat × Nat)} : Stable (OrdX q gp av bv sv xa xb n L) := fun D D' w w' h a b c => by
  obtain ⟨h2, h3, ⟨h4, h5⟩, h6, h7⟩ := h
  exact ⟨stable_isBox D D' w w' h2 a b c, stable_sl (by decide) D D' w w' h3 a b c, ⟨stable_sl (by decide) D D' w w' h4 a b c, stable_setsX D D' w w' h5 a b c⟩, stable_sl (by decide) D D' w w' h6 a b c, stable_setsX D D' w w' h7 a b c⟩
def IsOrd (w : World) (D : Nat → Prop) (p : Value) (n : Nat) (L : List (Nat × Nat)) : Prop :=
  ∃ (q gp : Nat) (av bv sv : Value) (xa xb : List Value), p = .pointer (some ⟨q, 0, none⟩) ∧ OrdX q gp av bv sv xa xb n L D w
theorem OrdX.ord {q gp : Nat} {av bv sv : Value} {xa xb : List Value} {n : Nat} {L : List (Nat × Nat)} {D : Nat → Prop} {w : World} (h : OrdX q gp av bv sv xa xb n L D w) : IsOrd w D (.pointer (some ⟨q, 0, none⟩)) n L := ⟨q, gp, av, bv, sv, xa, xb, rfl, h⟩
theorem stable_ord {p : Value} {n : Nat} {L : List (Nat × Nat)} : Stable fun D w => IsOrd w D p n L := fun D D' w w' h a b c => by
  obtain ⟨q, gp, av, bv, sv, xa, xb, h1, h2⟩ := h
  exact ⟨q, gp, av, bv, sv, xa, xb, h1, stable_ordX D D' w w' h2 a b c⟩
theorem Inr.le {n m : Nat} {L : List (Nat × Nat)} (h : Inr n L) (hn : n ≤ m) : Inr m L := fun x hx => ⟨Nat.lt_of_lt_of_le (h x hx).1 hn, Nat.lt_of_lt_of_le (h x hx).2 hn⟩
theorem pcells_one (L : List (Nat × Nat)) : ∀ u ∈ pcells L, u.oneCell' = true := fun u hu => by
  simp only [pcells, List.mem_flatMap, List.mem_cons, List.not_mem_nil, or_false] at hu
  obtain ⟨x, _, rfl | rfl⟩ := hu <;> rfl
theorem cmp_mem {L0 M C : List (Nat × Nat)} (hp : M.Perm L0) (hC : Cmp M C L0.length) (x : Nat × Nat) : x ∈ C ↔ x ∈ L0 := by
  rw [hC.2, List.take_of_length_le (Nat.le_of_eq hp.length_eq), hp.mem_iff]
theorem inr_of {n : Nat} {L0 M C : List (Nat × Nat)} (h : Inr n L0) (hp : M.Perm L0) (hC : Cmp M C L0.length) : Inr n C := fun x hx => h x ((cmp_mem hp hC x).1 hx)
theorem acyc_mem {L M : List (Nat × Nat)} (h : ∀ x, x ∈ L ↔ x ∈ M) : Acyc L ↔ Acyc M := ⟨fun k => k.sub fun x hx => (h x).2 hx, fun k => k.sub fun x hx => (h x).1 hx⟩
theorem onew_any {w0 w : World} {F : List Fact} {K : (Nat → Prop) → World → Prop} (n : Nat) (L0 : List (Nat × Nat)) (pv : Value) (hn : n ≤ 256) (hL : Inr n L0) (hl : L0.length ≤ 1000000) (hS : St w0 w F K)
    (kp : ∀ D w, K D w → Sl w D 2 pv L0.length (pcells L0)) (kt : ∀ D w, K D w → DTab w ∧ D 0) :
    Calls Tryd.prog 16 #[.int .i64 (n : Nat), pv] w fun e w' =>
      (¬ Acyc L0 ∧ e = .returned (.tuple #[.pointer none, .int .i64 16]) ∧ St w0 w' F K) ∨
      ∃ (p : Value) (L : List (Nat × Nat)), e = .returned (.tuple #[p, .int .i64 0]) ∧ Asc L ∧ (∀ x, x ∈ L ↔ x ∈ L0) ∧ Acyc L ∧ St w0 w' F fun D w => K D w ∧ IsOrd w D p n L := by
  obtain ⟨A, c, rfl, _, _⟩ := (kp _ _ hS.ro).shape
  have HL := Lib.hid hL
  clear hL
  go_enter Tryd.func16, Tryd.ntmps16
  go_wp2_with (first | ((with_reducible show wpList _ _ _ (⟨_, .binOp _ _ _ _ _, _, _, _, _⟩ :: _) _ _); (first | (refine st_lss rfl _ _ _ _ rfl _ _ _ rfl rfl (fun h_ => ?_) (fun h_ => ?_)) | (refine st_leq rfl _ _ _ _ rfl _ _ _ rfl rfl (fun h_ => ?_) (fun h_ => ?_)) | (refine st_gtr rfl _ _ _ _ rfl _ _ _ rfl rfl (fun h_ => ?_) (fun h_ => ?_)) | (refine st_geq rfl _ _ _ _ rfl _ _ _ rfl rfl (fun h_ => ?_) (fun h_ => ?_)) | (refine st_eql rfl _ _ _ _ rfl _ _ _ rfl rfl (fun h_ => ?_) (fun h_ => ?_)) | (refine st_neq rfl _ _ _ _ rfl _ _ _ rfl rfl (fun h_ => ?_) (fun h_ => ?_))) <;> go_prune))
  go_loopw [18] (fun i wr => ∃ j : Nat, j ≤ L0.length ∧ i = .int .i64 j ∧ St w0 wr F K) (fun i _ => L0.length - (intOf i).toNat)
  case atStart => exact ⟨0, by omega, rfl, hS⟩
  case round =>
    clear hS
    obtain ⟨j, hj, rfl, hS⟩ := hrel
    by_cases hlj : j < L0.length
    · obtain ⟨f1, f2⟩ := pcells_at L0 j hlj
      have hm := HL.out (L0.getD j (0, 0)) (by rw [List.getD_eq_getElem?_getD, List.getElem?_eq_getElem hlj]; exact List.getElem_mem hlj)
      generalize L0.getD j (0, 0) = x at *
      obtain ⟨xa, xb⟩ := x
      dsimp only at f1 f2 hm
      obtain ⟨ha, hxb⟩ := hm
      go_wp2_with (first
        | ((with_reducible show wpList _ _ _ (⟨_, .binOp _ _ _ _ _, _, _, _, _⟩ :: _) _ _); (first | (refine st_lss rfl _ _ _ _ rfl _ _ _ rfl rfl (fun h_ => ?_) (fun h_ => ?_)) | (refine st_leq rfl _ _ _ _ rfl _ _ _ rfl rfl (fun h_ => ?_) (fun h_ => ?_)) | (refine st_gtr rfl _ _ _ _ rfl _ _ _ rfl rfl (fun h_ => ?_) (fun h_ => ?_)) | (refine st_geq rfl _ _ _ _ rfl _ _ _ rfl rfl (fun h_ => ?_) (fun h_ => ?_)) | (refine st_eql rfl _ _ _ _ rfl _ _ _ rfl rfl (fun h_ => ?_) (fun h_ => ?_)) | (refine st_neq rfl _ _ _ _ rfl _ _ _ rfl rfl (fun h_ => ?_) (fun h_ => ?_))) <;> go_prune)
        | ((with_reducible show wpList _ _ _ (⟨_, .indexAddr _ _ _, _, _, _, _⟩ :: _) _ _); refine st_iaddr2 hS rfl _ _ _ rfl _ rfl rfl (by assumption) Tryd.underlying62 (by kernel_rfl) (by first | assumption | omega) _ _ (by assumption) (by assumption) ?_; intro b_ j_ hc0_ hc1_)
        | ((with_reducible show wpList _ _ _ (⟨some 7, _, _, _, _, _⟩ :: _) _ _); refine st_alloc hS rfl _ rfl (by kernel_rfl) ?_; clear hS; intro g4 w_ hS; (try simp only [Act.put, Act.eval, List.set_cons_zero, List.set_cons_succ, List.setIfInBounds_toArray, Array.getD_eq_getD_getElem?, List.getElem?_toArray, List.getElem?_cons_succ, List.getElem?_cons_zero, Option.getD_some, Value.cells] at hS))
        | ((with_reducible show wpList _ _ _ (⟨_, .store _ _ _, _, _, _, _⟩ :: _) _ _); (first | (refine st_store hS 0 rfl _ _ _ rfl _ _ rfl rfl _ _ rfl (by kernel_rfl) (by kernel_rfl) (by kernel_rfl) ?_) | (refine st_store hS 1 rfl _ _ _ rfl _ _ rfl rfl _ _ rfl (by kernel_rfl) (by kernel_rfl) (by kernel_rfl) ?_) | (refine st_store hS 2 rfl _ _ _ rfl _ _ rfl rfl _ _ rfl (by kernel_rfl) (by kernel_rfl) (by kernel_rfl) ?_) | (refine st_store hS 3 rfl _ _ _ rfl _ _ rfl rfl _ _ rfl (by kernel_rfl) (by kernel_rfl) (by kernel_rfl) ?_) | (refine st_cstore hS 0 rfl _ _ _ rfl _ _ _ rfl rfl rfl (by first | (simp; done) | (simp; omega) | exact of_decide_eq_true (by kernel_rfl)) rfl (by first | rfl | assumption) (by kernel_rfl) ?_) | (refine st_cstore hS 1 rfl _ _ _ rfl _ _ _ rfl rfl rfl (by first | (simp; done) | (simp; omega) | exact of_decide_eq_true (by kernel_rfl)) rfl (by first | rfl | assumption) (by kernel_rfl) ?_) | (refine st_cstore hS 2 rfl _ _ _ rfl _ _ _ rfl rfl rfl (by first | (simp; done) | (simp; omega) | exact of_decide_eq_true (by kernel_rfl)) rfl (by first | rfl | assumption) (by kernel_rfl) ?_) | (refine st_cstore hS 3 rfl _ _ _ rfl _ _ _ rfl rfl rfl (by first | (simp; done) | (simp; omega) | exact of_decide_eq_true (by kernel_rfl)) rfl (by first | rfl | assumption) (by kernel_rfl) ?_)); clear hS; intro w_ hS; (try simp only [Act.put, Act.eval, List.set_cons_zero, List.set_cons_succ, List.setIfInBounds_toArray, Array.getD_eq_getD_getElem?, List.getElem?_toArray, List.getElem?_cons_succ, List.getElem?_cons_zero, Option.getD_some, Value.cells] at hS))
        | ((with_reducible show wpList _ _ _ (⟨_, .load _ _, _, _, _, _⟩ :: _) _ _); first | (refine st_cell hS 0 rfl _ _ rfl _ _ rfl _ _ rfl (by decide +kernel) _ (by first | assumption | rfl) ?_) | (refine st_cell hS 1 rfl _ _ rfl _ _ rfl _ _ rfl (by decide +kernel) _ (by first | assumption | rfl) ?_) | (refine st_cell hS 2 rfl _ _ rfl _ _ rfl _ _ rfl (by decide +kernel) _ (by first | assumption | rfl) ?_) | (refine st_cell hS 3 rfl _ _ rfl _ _ rfl _ _ rfl (by decide +kernel) _ (by first | assumption | rfl) ?_) | (refine st_cell hS 4 rfl _ _ rfl _ _ rfl _ _ rfl (by decide +kernel) _ (by first | assumption | rfl) ?_) | (refine st_cell hS 5 rfl _ _ rfl _ _ rfl _ _ rfl (by decide +kernel) _ (by first | assumption | rfl) ?_) | (refine st_cell hS 6 rfl _ _ rfl _ _ rfl _ _ rfl (by decide +kernel) _ (by first | assumption | rfl) ?_) | (refine st_cell hS 7 rfl _ _ rfl _ _ rfl _ _ rfl (by decide +kernel) _ (by first | assumption | rfl) ?_)))
      exact ⟨⟨j + 1, hlj, by go_num, hS.sub (List.sublist_cons_self _ _)⟩, by simp [intOf]; omega⟩
    · obtain rfl : j = L0.length := by omega
      obtain ⟨DD, hDD, hK0⟩ := hS.dom
      have KS := hS.stable
      go_wp2_with (first
        | ((with_reducible show wpList _ _ _ (⟨_, .binOp _ _ _ _ _, _, _, _, _⟩ :: _) _ _); (first | (refine st_lss rfl _ _ _ _ rfl _ _ _ rfl rfl (fun h_ => ?_) (fun h_ => ?_)) | (refine st_leq rfl _ _ _ _ rfl _ _ _ rfl rfl (fun h_ => ?_) (fun h_ => ?_)) | (refine st_gtr rfl _ _ _ _ rfl _ _ _ rfl rfl (fun h_ => ?_) (fun h_ => ?_)) | (refine st_geq rfl _ _ _ _ rfl _ _ _ rfl rfl (fun h_ => ?_) (fun h_ => ?_)) | (refine st_eql rfl _ _ _ _ rfl _ _ _ rfl rfl (fun h_ => ?_) (fun h_ => ?_)) | (refine st_neq rfl _ _ _ _ rfl _ _ _ rfl rfl (fun h_ => ?_) (fun h_ => ?_))) <;> go_prune)
        | ((with_reducible show wpList _ _ _ (⟨_, .buildSlice _ 0 _, _, _, _, _⟩ :: _) _ _); refine st_empty hS rfl _ _ rfl Tryd.underlying62 (by kernel_rfl) 2 ?_; clear hS; intro ge w_ hS)
        | ((with_reducible show wpList _ _ _ (⟨some 40, _, _, _, _, _⟩ :: _) _ _); refine st_appf hS 0 rfl _ _ _ rfl ty_pairs _ rfl rfl _ _ _ _ rfl (kp _ _ hS.ro) (pcells_one L0) (by omega) (by omega) ?_; clear hS; intro g cap w_ hS)
        | (go_at_call 27; refine (sortp_any 0 g L0.length cap L0 (HL.out.le hn) rfl (by omega) hS rfl).mono ?_; rintro e w_ ⟨M, rfl, hMp, hMs, hS⟩; replace hMp := Lib.hid hMp; replace hMs := Lib.hid hMs)
        | (go_at_call 30; refine (compactp_any g L0.length cap M hMp.out.length_eq hl hMs.out hS).mono ?_; rintro e w_ ⟨C, rfl, hC, hCl, hS⟩; obtain ⟨hc2, hm2⟩ := own_cap (hS.own 0 rfl); replace hC := Lib.hid hC; replace hS := hS.freeze 0 (by decide) rfl)
        | (go_at_call 29; refine (clip_any (some ⟨g, 0, none⟩) C.length cap hc2 hm2 _).mono ?_; rintro e w_ ⟨rfl, rfl⟩)
        | ((with_reducible show wpList _ _ _ (⟨some 48, _, _, _, _, _⟩ :: _) _ _); refine st_box hS rfl _ _ rfl (.agg #[.int .i64 (n : Nat), .slice (some ⟨g, 0, none⟩) C.length C.length, .slice none 0 0, .slice none 0 0, .slice none 0 0]) _ rfl rfl ?_; clear hS; intro q w_ hS; (try simp only [Act.put, Act.eval, List.set_cons_zero, List.set_cons_succ, List.setIfInBounds_toArray, Array.getD_eq_getD_getElem?, List.getElem?_toArray, List.getElem?_cons_succ, List.getElem?_cons_zero, Option.getD_some, Value.cells] at hS))
        | (go_at_call 31; refine (osort_any q n C (.slice (some ⟨g, 0, none⟩) C.length C.length) hn (inr_of HL.out hMp.out hC.out) (by omega) hS (fun D w h => sl_clip h.2)).mono ?_; rintro e w_ ⟨b, S, sv, rfl, hb1, hb2, hS⟩; cases b <;> (replace hb1 := Lib.hid hb1; replace hb2 := Lib.hid hb2))
        | (go_at_call 32; refine (orelate_any q n C S (.slice (some ⟨g, 0, none⟩) C.length C.length) sv hn (inr_of HL.out hMp.out hC.out) (by omega) (hb1.out (by simp)).2.1 (hb1.out (by simp)).2.2.1 (hb1.out (by simp)).2.2.2 hS (fun D w h => sl_clip h.2) (fun D w h => kt D w h.1)).mono ?_; rintro e w_ ⟨av, bv, xa, xb, rfl, hS⟩))
      · go_ret2
        refine .inl ⟨fun h => hb2.out (by simp) ((acyc_mem (cmp_mem hMp.out hC.out)).2 h), rfl, ?_⟩
        exact (hS.sub (.cons _ (.cons _ (List.Sublist.refl _)))).mono KS fun D w h => h.1
      · go_ret2
        refine .inr ⟨_, C, rfl, hC.out.1, cmp_mem hMp.out hC.out, (hb1.out (by simp)).1, ?_⟩
        have hS1 := hS.sealB 0 (by simp) rfl
        exact hS1.mono (KS.and stable_ord) fun D w h => ⟨h.1.1.1, q, _, av, bv, sv, xa, xb, rfl, h.2, sl_clip h.1.1.2, h.1.2.1, h.1.2.2⟩
end Go.Proofs.YtihpgmbinhmmlaaDoor
namespace Go.Proofs.YtihpgmbinhmmlaaDoor
open Go.RowKit
attribute [local go_sem ↓] Go.wp_at_zero Go.wp_at_succ
set_option maxRecDepth 20000
set_option exponentiation.threshold 5000

theorem oin_any {w0 : World} {D : Nat → Prop} {p : Value} {n : Nat} {L : List (Nat × Nat)} (h : IsOrd w0 D p n L) (a : Int) : Calls Tryd.prog 85 #[p, .int .i64 a] w0 (Ret (fun x _ => x = .bool (decide (0 ≤ a ∧ a < n))) w0) := by
  obtain ⟨q, gp, av, bv, sv, xa, xb, rfl, hb, _⟩ := h
  obtain ⟨K, k0, hS⟩ : ∃ K : (Nat → Prop) → World → Prop, (∀ D w, K D w → w.cell? ⟨q, 0, none⟩ = some (.int .i64 (n : Nat))) ∧ St w0 w0 [] K := ⟨_, fun _ _ h => IsBox.cell h 0 rfl, St.start stable_isBox hb⟩
  clear hb
  by_cases h1 : 0 ≤ a
  · by_cases h2 : a < n
    · have HR := Lib.hid (show decide (0 ≤ a ∧ a < (n : Int)) = true by simp [h1, h2])
      generalize decide (0 ≤ a ∧ a < (n : Int)) = R at *
      go_enter Tryd.func85, Tryd.ntmps85
      go_wp2_with (first | ((with_reducible show wpList _ _ _ (⟨_, .binOp _ _ _ _ _, _, _, _, _⟩ :: _) _ _); (first | (refine st_lss rfl _ _ _ _ rfl _ _ _ rfl rfl (fun h_ => ?_) (fun h_ => ?_)) | (refine st_leq rfl _ _ _ _ rfl _ _ _ rfl rfl (fun h_ => ?_) (fun h_ => ?_)) | (refine st_gtr rfl _ _ _ _ rfl _ _ _ rfl rfl (fun h_ => ?_) (fun h_ => ?_)) | (refine st_geq rfl _ _ _ _ rfl _ _ _ rfl rfl (fun h_ => ?_) (fun h_ => ?_)) | (refine st_eql rfl _ _ _ _ rfl _ _ _ rfl rfl (fun h_ => ?_) (fun h_ => ?_)) | (refine st_neq rfl _ _ _ _ rfl _ _ _ rfl rfl (fun h_ => ?_) (fun h_ => ?_))) <;> go_prune) | ((with_reducible show wpList _ _ _ (⟨_, .load _ _, _, _, _, _⟩ :: _) _ _); refine st_kcell hS rfl _ _ rfl _ rfl _ k0 (by kernel_rfl) ?_))
      go_ret
      exact Ret.mk (congrArg Value.bool HR.out.symm) hS.below
    · have HR := Lib.hid (show decide (0 ≤ a ∧ a < (n : Int)) = false by simp [h2])
      generalize decide (0 ≤ a ∧ a < (n : Int)) = R at *
      go_enter Tryd.func85, Tryd.ntmps85
      go_wp2_with (first | ((with_reducible show wpList _ _ _ (⟨_, .binOp _ _ _ _ _, _, _, _, _⟩ :: _) _ _); (first | (refine st_lss rfl _ _ _ _ rfl _ _ _ rfl rfl (fun h_ => ?_) (fun h_ => ?_)) | (refine st_leq rfl _ _ _ _ rfl _ _ _ rfl rfl (fun h_ => ?_) (fun h_ => ?_)) | (refine st_gtr rfl _ _ _ _ rfl _ _ _ rfl rfl (fun h_ => ?_) (fun h_ => ?_)) | (refine st_geq rfl _ _ _ _ rfl _ _ _ rfl rfl (fun h_ => ?_) (fun h_ => ?_)) | (refine st_eql rfl _ _ _ _ rfl _ _ _ rfl rfl (fun h_ => ?_) (fun h_ => ?_)) | (refine st_neq rfl _ _ _ _ rfl _ _ _ rfl rfl (fun h_ => ?_) (fun h_ => ?_))) <;> go_prune) | ((with_reducible show wpList _ _ _ (⟨_, .load _ _, _, _, _, _⟩ :: _) _ _); refine st_kcell hS rfl _ _ rfl _ rfl _ k0 (by kernel_rfl) ?_))
      go_ret
      exact Ret.mk (congrArg Value.bool HR.out.symm) hS.below
  · have HR := Lib.hid (show decide (0 ≤ a ∧ a < (n : Int)) = false by simp [h1])
    generalize decide (0 ≤ a ∧ a < (n : Int)) = R at *
    go_enter Tryd.func85, Tryd.ntmps85
    go_wp2_with (first | ((with_reducible show wpList _ _ _ (⟨_, .binOp _ _ _ _ _, _, _, _, _⟩ :: _) _ _); (first | (refine st_lss rfl _ _ _ _ rfl _ _ _ rfl rfl (fun h_ => ?_) (fun h_ => ?_)) | (refine st_leq rfl _ _ _ _ rfl _ _ _ rfl rfl (fun h_ => ?_) (fun h_ => ?_)) | (refine st_gtr rfl _ _ _ _ rfl _ _ _ rfl rfl (fun h_ => ?_) (fun h_ => ?_)) | (refine st_geq rfl _ _ _ _ rfl _ _ _ rfl rfl (fun h_ => ?_) (fun h_ => ?_)) | (refine st_eql rfl _ _ _ _ rfl _ _ _ rfl rfl (fun h_ => ?_) (fun h_ => ?_)) | (refine st_neq rfl _ _ _ _ rfl _ _ _ rfl rfl (fun h_ => ?_) (fun h_ => ?_))) <;> go_prune) | ((with_reducible show wpList _ _ _ (⟨_, .load _ _, _, _, _, _⟩ :: _) _ _); refine st_kcell hS rfl _ _ rfl _ rfl _ k0 (by kernel_rfl) ?_))
    go_ret
    exact Ret.mk (congrArg Value.bool HR.out.symm) hS.below
theorem pclone_any {w0 : World} {D : Nat → Prop} {pv : Value} {L : List (Nat × Nat)} (h : Sl w0 D 2 pv L.length (pcells L)) (hl : L.length ≤ 1000000) : Calls Tryd.prog 92 #[pv] w0 fun e w' => ∃ v, e = .returned v ∧ St w0 w' [.own v 63 2 L.length (pcells L)] fun _ _ => True := by
  obtain ⟨A, c, rfl, hc1, hc2⟩ := h.shape
  obtain ⟨K, kp, hS⟩ : ∃ K : (Nat → Prop) → World → Prop, (∀ D w, K D w → Sl w D 2 (.slice A L.length c) L.length (pcells L)) ∧ St w0 w0 [] K := ⟨_, fun _ _ h => h, St.start (stable_sl (by decide)) h⟩
  clear h
  cases A with
  | none =>
    have h0 : L.length = 0 := by
      obtain ⟨_, A, c2, h2, _, _, h5⟩ := kp _ _ hS.ro
      rcases Nat.eq_zero_or_pos L.length with h | h
      · exact h
      · obtain ⟨b, o, h6, _⟩ := h5 h
        injection h2 with h2; rw [← h2] at h6; cases h6
    have hL : L = [] := List.length_eq_zero_iff.1 h0
    subst hL
    go_enter Tryd.func92, Tryd.ntmps92
    go_wp2_with (first
      | ((with_reducible show wpList _ _ _ (⟨_, .binOp _ _ _ _ _, _, _, _, _⟩ :: _) _ _); (first | (refine st_lss rfl _ _ _ _ rfl _ _ _ rfl rfl (fun h_ => ?_) (fun h_ => ?_)) | (refine st_leq rfl _ _ _ _ rfl _ _ _ rfl rfl (fun h_ => ?_) (fun h_ => ?_)) | (refine st_gtr rfl _ _ _ _ rfl _ _ _ rfl rfl (fun h_ => ?_) (fun h_ => ?_)) | (refine st_geq rfl _ _ _ _ rfl _ _ _ rfl rfl (fun h_ => ?_) (fun h_ => ?_)) | (refine st_eql rfl _ _ _ _ rfl _ _ _ rfl rfl (fun h_ => ?_) (fun h_ => ?_)) | (refine st_neq rfl _ _ _ _ rfl _ _ _ rfl rfl (fun h_ => ?_) (fun h_ => ?_))) <;> go_prune)
      | ((with_reducible show wpList _ _ _ (⟨some 4, _, _, _, _, _⟩ :: _) _ _); refine BigFrame.wpList_want rfl fun _ hK => opw_bin (vx := .slice none _ c) (vy := .slice none 0 0) (v := .bool true) rfl rfl rfl rfl (Lib.run_eql_slice_nil _ _ _ _ _ _ _ _ Tryd.underlying62) (hK _ _ ?_)))
    go_ret
    exact ⟨_, rfl, ((hS.nil 63 2)).mono (Stable.pure True) fun _ _ _ => trivial⟩
  | some ad =>
    go_enter Tryd.func92, Tryd.ntmps92
    go_wp2_with (first
      | ((with_reducible show wpList _ _ _ (⟨some 4, _, _, _, _, _⟩ :: _) _ _); refine BigFrame.wpList_want rfl fun _ hK => opw_bin (vx := .slice (some ad) L.length c) (vy := .slice none 0 0) (v := .bool false) rfl rfl rfl rfl (Lib.run_eql_slice_nil _ _ _ _ _ _ _ _ Tryd.underlying62) (hK _ _ ?_))
      | ((with_reducible show wpList _ _ _ (⟨_, .buildSlice _ 0 _, _, _, _, _⟩ :: _) _ _); refine st_empty hS rfl _ _ rfl Tryd.underlying62 (by kernel_rfl) 2 ?_; clear hS; intro ge w_ hS)
      | ((with_reducible show wpList _ _ _ (⟨some 7, _, _, _, _, _⟩ :: _) _ _); refine st_appf hS 0 rfl _ _ _ rfl ty_pairs _ rfl rfl _ _ _ _ rfl (kp _ _ hS.ro) (pcells_one L) (by omega) (by omega) ?_; clear hS; intro g cap w_ hS))
    go_ret
    exact ⟨_, rfl, hS.mono (Stable.pure True) fun _ _ _ => trivial⟩
theorem opairs_any {w0 : World} {D : Nat → Prop} {p : Value} {n : Nat} {L : List (Nat × Nat)} (h : IsOrd w0 D p n L) (hl : L.length ≤ 1000000) : Calls Tryd.prog 80 #[p] w0 fun e w' => ∃ v, e = .returned v ∧ St w0 w' [.own v 63 2 L.length (pcells L)] fun _ _ => True := by
  obtain ⟨q, gp, av, bv, sv, xa, xb, rfl, hb, hp, _⟩ := h
  have k0 := Lib.hid (hb.cell 1 (x := .slice (some ⟨gp, 0, none⟩) L.length L.length) rfl)
  have HC := Lib.hid (pclone_any hp hl)
  clear hb hp
  go_enter Tryd.func80, Tryd.ntmps80
  go_wp2_with (first
    | ((with_reducible show wpList _ _ _ (⟨_, .binOp _ _ _ _ _, _, _, _, _⟩ :: _) _ _); (first | (refine st_lss rfl _ _ _ _ rfl _ _ _ rfl rfl (fun h_ => ?_) (fun h_ => ?_)) | (refine st_leq rfl _ _ _ _ rfl _ _ _ rfl rfl (fun h_ => ?_) (fun h_ => ?_)) | (refine st_gtr rfl _ _ _ _ rfl _ _ _ rfl rfl (fun h_ => ?_) (fun h_ => ?_)) | (refine st_geq rfl _ _ _ _ rfl _ _ _ rfl rfl (fun h_ => ?_) (fun h_ => ?_)) | (refine st_eql rfl _ _ _ _ rfl _ _ _ rfl rfl (fun h_ => ?_) (fun h_ => ?_)) | (refine st_neq rfl _ _ _ _ rfl _ _ _ rfl rfl (fun h_ => ?_) (fun h_ => ?_))) <;> go_prune)
    | ((with_reducible show wpList _ _ _ (⟨_, .load _ _, _, _, _, _⟩ :: _) _ _); refine BigFrame.wpList_want rfl fun _ hK => opw_cell rfl rfl (by kernel_rfl) k0.out (hK _ _ ?_))
    | (go_at_call 92; refine HC.out.mono ?_; rintro e w_ ⟨v, rfl, hS⟩))
  go_ret
  exact ⟨v, rfl, hS⟩
theorem rng1 {w : World} {g i : Nat} {u : Value} (h : w.cell? ⟨g, i + 0, none⟩ = some u) : w.rangeAt g i [u] := fun j v hj => by
  match j, hj with
  | 0, hj => simp at hj; subst hj; exact h
  | j + 1, hj => simp at hj
theorem oabove_any {w0 : World} {D : Nat → Prop} {p : Value} {n : Nat} {L : List (Nat × Nat)} (h : IsOrd w0 D p n L) (hL : Inr n L) (a : Int) : Calls Tryd.prog 66 #[p, .int .i64 a] w0 (Ret (fun x w => ∃ N, IsSet w D x N ∧ ∀ i : Nat, N.testBit i = true ↔ ∃ b : Nat, a = (b : Int) ∧ TC L i b) w0) := by
  obtain ⟨q, gp, av, bv, sv, xa, xb, rfl, h⟩ := h
  have HA := Lib.hid h.2.2.1.2
  obtain ⟨A, c, rfl, _, _⟩ := h.2.2.1.1.shape
  obtain ⟨K, ko, hS⟩ : ∃ K : (Nat → Prop) → World → Prop, (∀ D w, K D w → OrdX q gp (.slice A n c) bv sv xa xb n L D w) ∧ St w0 w0 [] K := ⟨_, fun _ _ h => h, St.start stable_ordX h⟩
  clear h
  by_cases hin : 0 ≤ a ∧ a < (n : Int)
  · obtain ⟨k, rfl⟩ : ∃ k : Nat, a = (k : Int) := ⟨a.toNat, by omega⟩
    have hk : k < n := by omega
    obtain ⟨u, hu1, hu2⟩ := HA.out k hk
    obtain ⟨A3, c3, l3, he, _⟩ := hu2.parts
    obtain rfl : u = .slice A3 l3.length c3 := by injection he with he; simpa using he
    clear he
    have HU := Lib.hid hu2
    have HD := Lib.hid (decide_eq_true hin)
    clear hu2 hin
    go_enter Tryd.func66, Tryd.ntmps66
    go_wp2_with (first
      | ((with_reducible show wpList _ _ _ (⟨some 4, _, _, _, _, _⟩ :: _) _ _); refine st_alloc hS rfl _ rfl (by kernel_rfl) ?_; clear hS; intro g w_ hS; (try simp only [Act.put, Act.eval, List.set_cons_zero, List.set_cons_succ, List.setIfInBounds_toArray, Array.getD_eq_getD_getElem?, List.getElem?_toArray, List.getElem?_cons_succ, List.getElem?_cons_zero, Option.getD_some, Value.cells] at hS))
      | (go_at_call 85; refine (oin_any (ko _ _ hS.ro).ord _).mono ?_; rw [HD.out]; rintro r_ w_ ⟨_, rfl, rfl, hb_⟩; replace hS := hS.ext hb_; clear hb_)
      | ((with_reducible show wpList _ _ _ (⟨some 13, _, _, _, _, _⟩ :: _) _ _); refine st_kcell hS rfl _ _ rfl _ rfl _ (fun D w h => (ko D w h).1.cell 2 rfl) (by kernel_rfl) ?_)
      | ((with_reducible show wpList _ _ _ (⟨some 15, _, _, _, _, _⟩ :: _) _ _); refine st_iaddr rfl _ _ _ rfl _ rfl rfl (ko _ _ hS.ro).2.2.1.1 Tryd.underlying67 (by kernel_rfl) hk ?_; intro b_ j_ _ _ hc_)
      | ((with_reducible show wpList _ _ _ (⟨some 16, _, _, _, _, _⟩ :: _) _ _); refine BigFrame.wpList_want rfl fun _ hK => opw_mid (cs := [.slice A3 l3.length c3]) rfl rfl (rng1 (hc_ 0 _ (by simpa using hu1))) Tryd.underlying31 rfl (by kernel_rfl) (hK _ _ ?_))
      | ((with_reducible show wpList _ _ _ (⟨_, .store _ _ _, _, _, _, _⟩ :: _) _ _); (first | (refine st_store hS 0 rfl _ _ _ rfl _ _ rfl rfl _ _ rfl (by kernel_rfl) (by kernel_rfl) (by kernel_rfl) ?_) | (refine st_store hS 1 rfl _ _ _ rfl _ _ rfl rfl _ _ rfl (by kernel_rfl) (by kernel_rfl) (by kernel_rfl) ?_) | (refine st_store hS 2 rfl _ _ _ rfl _ _ rfl rfl _ _ rfl (by kernel_rfl) (by kernel_rfl) (by kernel_rfl) ?_) | (refine st_store hS 3 rfl _ _ _ rfl _ _ rfl rfl _ _ rfl (by kernel_rfl) (by kernel_rfl) (by kernel_rfl) ?_) | (refine st_cstore hS 0 rfl _ _ _ rfl _ _ _ rfl rfl rfl (by first | (simp; done) | (simp; omega) | exact of_decide_eq_true (by kernel_rfl)) rfl (by first | rfl | assumption) (by kernel_rfl) ?_) | (refine st_cstore hS 1 rfl _ _ _ rfl _ _ _ rfl rfl rfl (by first | (simp; done) | (simp; omega) | exact of_decide_eq_true (by kernel_rfl)) rfl (by first | rfl | assumption) (by kernel_rfl) ?_) | (refine st_cstore hS 2 rfl _ _ _ rfl _ _ _ rfl rfl rfl (by first | (simp; done) | (simp; omega) | exact of_decide_eq_true (by kernel_rfl)) rfl (by first | rfl | assumption) (by kernel_rfl) ?_) | (refine st_cstore hS 3 rfl _ _ _ rfl _ _ _ rfl rfl rfl (by first | (simp; done) | (simp; omega) | exact of_decide_eq_true (by kernel_rfl)) rfl (by first | rfl | assumption) (by kernel_rfl) ?_)); clear hS; intro w_ hS; (try simp only [Act.put, Act.eval, List.set_cons_zero, List.set_cons_succ, List.setIfInBounds_toArray, Array.getD_eq_getD_getElem?, List.getElem?_toArray, List.getElem?_cons_succ, List.getElem?_cons_zero, Option.getD_some, Value.cells] at hS)))
    refine ret_cell Tryd.results66 rfl (hS.box 0 rfl) Tryd.underlying31 rfl (by kernel_rfl) rfl ?_
    refine Ret.mk ⟨_, HU.out.ext hS.below, fun i => (tb_above hL).trans ⟨fun h => ⟨k, rfl, h⟩, fun ⟨b, e, h⟩ => ?_⟩⟩ hS.below
    obtain rfl : k = b := by omega
    exact h
  · have HD := Lib.hid (decide_eq_false hin)
    go_enter Tryd.func66, Tryd.ntmps66
    go_wp2_with (first
      | ((with_reducible show wpList _ _ _ (⟨some 4, _, _, _, _, _⟩ :: _) _ _); refine st_alloc hS rfl _ rfl (by kernel_rfl) ?_; clear hS; intro g w_ hS; (try simp only [Act.put, Act.eval, List.set_cons_zero, List.set_cons_succ, List.setIfInBounds_toArray, Array.getD_eq_getD_getElem?, List.getElem?_toArray, List.getElem?_cons_succ, List.getElem?_cons_zero, Option.getD_some, Value.cells] at hS))
      | (go_at_call 85; refine (oin_any (ko _ _ hS.ro).ord _).mono ?_; rw [HD.out]; rintro r_ w_ ⟨_, rfl, rfl, hb_⟩; replace hS := hS.ext hb_; clear hb_)
      | ((with_reducible show wpList _ _ _ (⟨_, .build _ _, _, _, _, _⟩ :: _) _ _); refine wpList_build_of rfl _ _ rfl #[.slice none 0 0] (by kernel_rfl) ?_)
      | ((with_reducible show wpList _ _ _ (⟨_, .store _ _ _, _, _, _, _⟩ :: _) _ _); (first | (refine st_store hS 0 rfl _ _ _ rfl _ _ rfl rfl _ _ rfl (by kernel_rfl) (by kernel_rfl) (by kernel_rfl) ?_) | (refine st_store hS 1 rfl _ _ _ rfl _ _ rfl rfl _ _ rfl (by kernel_rfl) (by kernel_rfl) (by kernel_rfl) ?_) | (refine st_store hS 2 rfl _ _ _ rfl _ _ rfl rfl _ _ rfl (by kernel_rfl) (by kernel_rfl) (by kernel_rfl) ?_) | (refine st_store hS 3 rfl _ _ _ rfl _ _ rfl rfl _ _ rfl (by kernel_rfl) (by kernel_rfl) (by kernel_rfl) ?_) | (refine st_cstore hS 0 rfl _ _ _ rfl _ _ _ rfl rfl rfl (by first | (simp; done) | (simp; omega) | exact of_decide_eq_true (by kernel_rfl)) rfl (by first | rfl | assumption) (by kernel_rfl) ?_) | (refine st_cstore hS 1 rfl _ _ _ rfl _ _ _ rfl rfl rfl (by first | (simp; done) | (simp; omega) | exact of_decide_eq_true (by kernel_rfl)) rfl (by first | rfl | assumption) (by kernel_rfl) ?_) | (refine st_cstore hS 2 rfl _ _ _ rfl _ _ _ rfl rfl rfl (by first | (simp; done) | (simp; omega) | exact of_decide_eq_true (by kernel_rfl)) rfl (by first | rfl | assumption) (by kernel_rfl) ?_) | (refine st_cstore hS 3 rfl _ _ _ rfl _ _ _ rfl rfl rfl (by first | (simp; done) | (simp; omega) | exact of_decide_eq_true (by kernel_rfl)) rfl (by first | rfl | assumption) (by kernel_rfl) ?_)); clear hS; intro w_ hS; (try simp only [Act.put, Act.eval, List.set_cons_zero, List.set_cons_succ, List.setIfInBounds_toArray, Array.getD_eq_getD_getElem?, List.getElem?_toArray, List.getElem?_cons_succ, List.getElem?_cons_zero, Option.getD_some, Value.cells] at hS)))
    refine ret_cell Tryd.results66 rfl (hS.box 0 rfl) Tryd.underlying31 rfl (by kernel_rfl) rfl ?_
    refine Ret.mk ⟨0, IsSet.empty, fun i => ⟨fun h => by simp at h, fun ⟨b, e, h⟩ => ?_⟩⟩ hS.below
    have := (h.lt hL).2
    omega
theorem obelow_any {w0 : World} {D : Nat → Prop} {p : Value} {n : Nat} {L : List (Nat × Nat)} (h : IsOrd w0 D p n L) (hL : Inr n L) (a : Int) : Calls Tryd.prog 67 #[p, .int .i64 a] w0 (Ret (fun x w => ∃ N, IsSet w D x N ∧ ∀ i : Nat, N.testBit i = true ↔ ∃ b : Nat, a = (b : Int) ∧ TC L b i) w0) := by
  obtain ⟨q, gp, av, bv, sv, xa, xb, rfl, h⟩ := h
  have HA := Lib.hid h.2.2.2.2
  obtain ⟨A, c, rfl, _, _⟩ := h.2.2.2.1.shape
  obtain ⟨K, ko, hS⟩ : ∃ K : (Nat → Prop) → World → Prop, (∀ D w, K D w → OrdX q gp av (.slice A n c) sv xa xb n L D w) ∧ St w0 w0 [] K := ⟨_, fun _ _ h => h, St.start stable_ordX h⟩
  clear h
  by_cases hin : 0 ≤ a ∧ a < (n : Int)
  · obtain ⟨k, rfl⟩ : ∃ k : Nat, a = (k : Int) := ⟨a.toNat, by omega⟩
    have hk : k < n := by omega
    obtain ⟨u, hu1, hu2⟩ := HA.out k hk
    obtain ⟨A3, c3, l3, he, _⟩ := hu2.parts
    obtain rfl : u = .slice A3 l3.length c3 := by injection he with he; simpa using he
    clear he
    have HU := Lib.hid hu2
    have HD := Lib.hid (decide_eq_true hin)
    clear hu2 hin
    go_enter Tryd.func67, Tryd.ntmps67
    go_wp2_with (first
      | ((with_reducible show wpList _ _ _ (⟨some 4, _, _, _, _, _⟩ :: _) _ _); refine st_alloc hS rfl _ rfl (by kernel_rfl) ?_; clear hS; intro g w_ hS; (try simp only [Act.put, Act.eval, List.set_cons_zero, List.set_cons_succ, List.setIfInBounds_toArray, Array.getD_eq_getD_getElem?, List.getElem?_toArray, List.getElem?_cons_succ, List.getElem?_cons_zero, Option.getD_some, Value.cells] at hS))
      | (go_at_call 85; refine (oin_any (ko _ _ hS.ro).ord _).mono ?_; rw [HD.out]; rintro r_ w_ ⟨_, rfl, rfl, hb_⟩; replace hS := hS.ext hb_; clear hb_)
      | ((with_reducible show wpList _ _ _ (⟨some 13, _, _, _, _, _⟩ :: _) _ _); refine st_kcell hS rfl _ _ rfl _ rfl _ (fun D w h => (ko D w h).1.cell 3 rfl) (by kernel_rfl) ?_)
      | ((with_reducible show wpList _ _ _ (⟨some 15, _, _, _, _, _⟩ :: _) _ _); refine st_iaddr rfl _ _ _ rfl _ rfl rfl (ko _ _ hS.ro).2.2.2.1 Tryd.underlying67 (by kernel_rfl) hk ?_; intro b_ j_ _ _ hc_)
      | ((with_reducible show wpList _ _ _ (⟨some 16, _, _, _, _, _⟩ :: _) _ _); refine BigFrame.wpList_want rfl fun _ hK => opw_mid (cs := [.slice A3 l3.length c3]) rfl rfl (rng1 (hc_ 0 _ (by simpa using hu1))) Tryd.underlying31 rfl (by kernel_rfl) (hK _ _ ?_))
      | ((with_reducible show wpList _ _ _ (⟨_, .store _ _ _, _, _, _, _⟩ :: _) _ _); (first | (refine st_store hS 0 rfl _ _ _ rfl _ _ rfl rfl _ _ rfl (by kernel_rfl) (by kernel_rfl) (by kernel_rfl) ?_) | (refine st_store hS 1 rfl _ _ _ rfl _ _ rfl rfl _ _ rfl (by kernel_rfl) (by kernel_rfl) (by kernel_rfl) ?_) | (refine st_store hS 2 rfl _ _ _ rfl _ _ rfl rfl _ _ rfl (by kernel_rfl) (by kernel_rfl) (by kernel_rfl) ?_) | (refine st_store hS 3 rfl _ _ _ rfl _ _ rfl rfl _ _ rfl (by kernel_rfl) (by kernel_rfl) (by kernel_rfl) ?_) | (refine st_cstore hS 0 rfl _ _ _ rfl _ _ _ rfl rfl rfl (by first | (simp; done) | (simp; omega) | exact of_decide_eq_true (by kernel_rfl)) rfl (by first | rfl | assumption) (by kernel_rfl) ?_) | (refine st_cstore hS 1 rfl _ _ _ rfl _ _ _ rfl rfl rfl (by first | (simp; done) | (simp; omega) | exact of_decide_eq_true (by kernel_rfl)) rfl (by first | rfl | assumption) (by kernel_rfl) ?_) | (refine st_cstore hS 2 rfl _ _ _ rfl _ _ _ rfl rfl rfl (by first | (simp; done) | (simp; omega) | exact of_decide_eq_true (by kernel_rfl)) rfl (by first | rfl | assumption) (by kernel_rfl) ?_) | (refine st_cstore hS 3 rfl _ _ _ rfl _ _ _ rfl rfl rfl (by first | (simp; done) | (simp; omega) | exact of_decide_eq_true (by kernel_rfl)) rfl (by first | rfl | assumption) (by kernel_rfl) ?_)); clear hS; intro w_ hS; (try simp only [Act.put, Act.eval, List.set_cons_zero, List.set_cons_succ, List.setIfInBounds_toArray, Array.getD_eq_getD_getElem?, List.getElem?_toArray, List.getElem?_cons_succ, List.getElem?_cons_zero, Option.getD_some, Value.cells] at hS)))
    refine ret_cell Tryd.results67 rfl (hS.box 0 rfl) Tryd.underlying31 rfl (by kernel_rfl) rfl ?_
    refine Ret.mk ⟨_, HU.out.ext hS.below, fun i => (tb_below hL).trans ⟨fun h => ⟨k, rfl, h⟩, fun ⟨b, e, h⟩ => ?_⟩⟩ hS.below
    obtain rfl : k = b := by omega
    exact h
  · have HD := Lib.hid (decide_eq_false hin)
    go_enter Tryd.func67, Tryd.ntmps67
    go_wp2_with (first
      | ((with_reducible show wpList _ _ _ (⟨some 4, _, _, _, _, _⟩ :: _) _ _); refine st_alloc hS rfl _ rfl (by kernel_rfl) ?_; clear hS; intro g w_ hS; (try simp only [Act.put, Act.eval, List.set_cons_zero, List.set_cons_succ, List.setIfInBounds_toArray, Array.getD_eq_getD_getElem?, List.getElem?_toArray, List.getElem?_cons_succ, List.getElem?_cons_zero, Option.getD_some, Value.cells] at hS))
      | (go_at_call 85; refine (oin_any (ko _ _ hS.ro).ord _).mono ?_; rw [HD.out]; rintro r_ w_ ⟨_, rfl, rfl, hb_⟩; replace hS := hS.ext hb_; clear hb_)
      | ((with_reducible show wpList _ _ _ (⟨_, .build _ _, _, _, _, _⟩ :: _) _ _); refine wpList_build_of rfl _ _ rfl #[.slice none 0 0] (by kernel_rfl) ?_)
      | ((with_reducible show wpList _ _ _ (⟨_, .store _ _ _, _, _, _, _⟩ :: _) _ _); (first | (refine st_store hS 0 rfl _ _ _ rfl _ _ rfl rfl _ _ rfl (by kernel_rfl) (by kernel_rfl) (by kernel_rfl) ?_) | (refine st_store hS 1 rfl _ _ _ rfl _ _ rfl rfl _ _ rfl (by kernel_rfl) (by kernel_rfl) (by kernel_rfl) ?_) | (refine st_store hS 2 rfl _ _ _ rfl _ _ rfl rfl _ _ rfl (by kernel_rfl) (by kernel_rfl) (by kernel_rfl) ?_) | (refine st_store hS 3 rfl _ _ _ rfl _ _ rfl rfl _ _ rfl (by kernel_rfl) (by kernel_rfl) (by kernel_rfl) ?_) | (refine st_cstore hS 0 rfl _ _ _ rfl _ _ _ rfl rfl rfl (by first | (simp; done) | (simp; omega) | exact of_decide_eq_true (by kernel_rfl)) rfl (by first | rfl | assumption) (by kernel_rfl) ?_) | (refine st_cstore hS 1 rfl _ _ _ rfl _ _ _ rfl rfl rfl (by first | (simp; done) | (simp; omega) | exact of_decide_eq_true (by kernel_rfl)) rfl (by first | rfl | assumption) (by kernel_rfl) ?_) | (refine st_cstore hS 2 rfl _ _ _ rfl _ _ _ rfl rfl rfl (by first | (simp; done) | (simp; omega) | exact of_decide_eq_true (by kernel_rfl)) rfl (by first | rfl | assumption) (by kernel_rfl) ?_) | (refine st_cstore hS 3 rfl _ _ _ rfl _ _ _ rfl rfl rfl (by first | (simp; done) | (simp; omega) | exact of_decide_eq_true (by kernel_rfl)) rfl (by first | rfl | assumption) (by kernel_rfl) ?_)); clear hS; intro w_ hS; (try simp only [Act.put, Act.eval, List.set_cons_zero, List.set_cons_succ, List.setIfInBounds_toArray, Array.getD_eq_getD_getElem?, List.getElem?_toArray, List.getElem?_cons_succ, List.getElem?_cons_zero, Option.getD_some, Value.cells] at hS)))
    refine ret_cell Tryd.results67 rfl (hS.box 0 rfl) Tryd.underlying31 rfl (by kernel_rfl) rfl ?_
    refine Ret.mk ⟨0, IsSet.empty, fun i => ⟨fun h => by simp at h, fun ⟨b, e, h⟩ => ?_⟩⟩ hS.below
    have := (h.lt hL).1
    omega
end Go.Proofs.YtihpgmbinhmmlaaDoor
namespace Go.Proofs.YtihpgmbinhmmlaaDoor
open Go.RowKit
attribute [local go_sem ↓] Go.wp_at_zero Go.wp_at_succ
set_option maxRecDepth 20000

structure AG where
  r : List Value
  b : List (Nat × Value)
def AtS (g : AG) (s : Nat) (v : Value) : Prop := ∃ pre post, g.r = pre ++ v :: post ∧ post.length = s
structure AD where
  e : TypeId
  size : Nat
  top : Nat
  cnt : Nat → Nat
  cont : Nat → List Value
  src : Nat → Value → Fact
def AG.main (d : AD) (g : AG) : List Fact := match g.r with
  | [] => []
  | v :: r => [.own v d.e d.size (d.cnt r.length) (d.cont r.length)]
def AG.F (d : AD) (g : AG) : List Fact := (g.b.map fun x => d.src x.1 x.2) ++ g.main d
def AJ (w0 : World) (F : List Fact) (K : (Nat → Prop) → World → Prop) (d : AD) (p : World × AG) : Prop := St w0 p.1 (p.2.F d ++ F) K ∧ p.2.r.length ≤ d.top
def AR (w0 : World) (F : List Fact) (K : (Nat → Prop) → World → Prop) (d : AD) (p p' : World × AG) : Prop := (AJ w0 F K d p → AJ w0 F K d p') ∧ (∃ s, p'.2.r = s ++ p.2.r) ∧ ∀ x, x ∈ p.2.b → x ∈ p'.2.b
def akind (kd : List (Nat × (Bool × Nat))) (i : Nat) : Option (Bool × Nat) := (kd.find? fun x => x.1 == i).map (·.2)
def AN (kd : List (Nat × (Bool × Nat))) (i : Nat) (p : World × AG) : Prop := match akind kd i with
  | some (true, s) => p.2.r.length ≤ s
  | some (false, j) => ∀ v, (j, v) ∉ p.2.b
  | none => True
theorem akind_inj {kd : List (Nat × (Bool × Nat))} (h : (kd.map (·.2)).Nodup) {i j : Nat} {x : Bool × Nat} (hi : akind kd i = some x) (hj : akind kd j = some x) : i = j := by
  unfold akind at hi hj
  obtain ⟨y, hy, rfl⟩ := Option.map_eq_some_iff.1 hi
  obtain ⟨z, hz, he⟩ := Option.map_eq_some_iff.1 hj
  have e1 : y.1 = i := by simpa using List.find?_some hy
  have e2 : z.1 = j := by simpa using List.find?_some hz
  have m1 := List.mem_of_find?_eq_some hy
  have m2 := List.mem_of_find?_eq_some hz
  obtain ⟨a, ha, ea⟩ := List.getElem_of_mem m1
  obtain ⟨b, hb, eb⟩ := List.getElem_of_mem m2
  have hp := List.pairwise_iff_getElem.1 h
  have key : a = b := by
    rcases Nat.lt_trichotomy a b with q | q | q
    · have := hp a b (by simpa using ha) (by simpa using hb) q
      simp [ea, eb, he] at this
    · exact q
    · have := hp b a (by simpa using hb) (by simpa using ha) q
      simp [ea, eb, he] at this
  subst key
  rw [ea] at eb
  rw [← e1, ← e2, eb]
theorem AtS.mono {g g' : AG} {s : Nat} {v : Value} (h : AtS g s v) (k : ∃ t, g'.r = t ++ g.r) : AtS g' s v := by
  obtain ⟨pre, post, h1, h2⟩ := h
  obtain ⟨t, k⟩ := k
  exact ⟨t ++ pre, post, by rw [k, h1, List.append_assoc], h2⟩
theorem AtS.head {g : AG} {s : Nat} {v : Value} (h : AtS g s v) (hl : g.r.length ≤ s + 1) : ∃ post, g.r = v :: post ∧ post.length = s := by
  obtain ⟨pre, post, h1, h2⟩ := h
  rw [h1, List.length_append, List.length_cons] at hl
  have : pre = [] := List.eq_nil_of_length_eq_zero (by omega)
  subst this
  exact ⟨post, h1, h2⟩
theorem St.permC {w0 w : World} {F F' : List Fact} {K : (Nat → Prop) → World → Prop} (h : St w0 w F K) (hp : F.Perm F') : St w0 w F' K := by
  refine ⟨h.below, fun f hf => h.holds f (hp.mem_iff.2 hf), hp.pairwise h.apart fun {a b} q k hk e => q k e hk, h.stable, h.stable _ _ _ _ h.ro (Nat.le_refl _) (fun _ _ _ _ h => h) fun k h1 _ _ f hf => h1 f (hp.mem_iff.2 hf)⟩
section
variable {w0 : World} {F : List Fact} {K : (Nat → Prop) → World → Prop} {d : AD} {p p' : World × AG} {kd : List (Nat × (Bool × Nat))} {i : Nat}
theorem AR.refl (p : World × AG) : AR w0 F K d p p := ⟨id, ⟨[], rfl⟩, fun _ h => h⟩
theorem AR.trans (a b c : World × AG) (h : AR w0 F K d a b) (k : AR w0 F K d b c) : AR w0 F K d a c := by
  obtain ⟨s, hs⟩ := h.2.1
  obtain ⟨t, ht⟩ := k.2.1
  exact ⟨fun y => k.1 (h.1 y), ⟨t ++ s, by rw [ht, hs, List.append_assoc]⟩, fun x hx => k.2.2 x (h.2.2 x hx)⟩
theorem AR.src (hnd : (kd.map (·.2)).Nodup) {j : Nat} (hki : akind kd i = some (false, j)) {w' : World} {v : Value} (hb : Below p.1.heap.size p.1 w') (hf : (d.src j v).holds p.1.heap.size w') : AR w0 F K d p (w', ⟨p.2.r, (j, v) :: p.2.b⟩) ∧ ∀ t, t ≠ i → AN kd t p → AN kd t (w', ⟨p.2.r, (j, v) :: p.2.b⟩) := by
  refine ⟨⟨fun h => ⟨h.1.new hb _ hf, h.2⟩, ⟨[], rfl⟩, fun _ h => List.mem_cons_of_mem _ h⟩, fun t ht h => ?_⟩
  unfold AN at *
  split
  · rename_i s hs
    rw [hs] at h
    exact h
  · rename_i q hq
    rw [hq] at h
    intro v' hv'
    rcases List.mem_cons.1 hv' with e | e
    · injection e with e _
      subst e
      exact ht (akind_inj hnd hq hki)
    · exact h v' e
  · trivial
theorem AR.main (hnd : (kd.map (·.2)).Nodup) {s : Nat} (hki : akind kd i = some (true, s)) {w' : World} {v : Value} (hl : p.2.r.length = s) (hJ : AJ w0 F K d p → AJ w0 F K d (w', ⟨v :: p.2.r, p.2.b⟩)) : AR w0 F K d p (w', ⟨v :: p.2.r, p.2.b⟩) ∧ ∀ t, t ≠ i → AN kd t p → AN kd t (w', ⟨v :: p.2.r, p.2.b⟩) := by
  refine ⟨⟨hJ, ⟨[v], rfl⟩, fun _ h => h⟩, fun t ht h => ?_⟩
  unfold AN at *
  split
  · rename_i q hq
    rw [hq] at h
    have : q ≠ s := fun e => ht (akind_inj hnd (e ▸ hq) hki)
    show p.2.r.length + 1 ≤ q
    have : p.2.r.length ≤ q := h
    omega
  · rename_i q hq
    rw [hq] at h
    exact h
  · trivial
theorem AJ.start {w' : World} {v : Value} (h : AJ w0 F K d p) (h0 : p.2.r = []) (hb : Below p.1.heap.size p.1 w') (hf : (Fact.own v d.e d.size (d.cnt 0) (d.cont 0)).holds p.1.heap.size w') (ht : 0 < d.top) : AJ w0 F K d (w', ⟨v :: p.2.r, p.2.b⟩) := by
  obtain ⟨w, r, b⟩ := p
  dsimp only at h0
  subst h0
  refine ⟨(h.1.new hb _ hf).permC ?_, ht⟩
  simp only [AG.F, AG.main, List.append_nil, List.append_assoc]
  exact List.perm_middle.symm
theorem AJ.row {v : Value} {post : List Value} (h : AJ w0 F K d p) (hr : p.2.r = v :: post) : p.1.ownsRow w0.heap.size d.e d.size v (d.cnt post.length) (d.cont post.length) ∧ w0.heap.size ≤ p.1.heap.size := by
  obtain ⟨w, r, b⟩ := p
  dsimp only at hr
  subst hr
  exact ⟨h.1.holds (.own v d.e d.size (d.cnt post.length) (d.cont post.length)) (by simp [AG.F, AG.main]), h.1.size⟩
theorem AJ.next {w' : World} {v u : Value} {post : List Value} (h : AJ w0 F K d p) (hr : p.2.r = v :: post) (ho : w'.ownsRow w0.heap.size d.e d.size u (d.cnt (post.length + 1)) (d.cont (post.length + 1))) (hg : p.1.grownBy w' v.ownBlock) (hb : ∀ k, u.ownBlock = some k → v.ownBlock = some k ∨ p.1.heap.size ≤ k) (ht : post.length + 1 < d.top) : AJ w0 F K d (w', ⟨u :: p.2.r, p.2.b⟩) := by
  obtain ⟨w, r, b⟩ := p
  dsimp only at hr
  subst hr
  refine ⟨?_, by simp; omega⟩
  have h1 := h.1
  simp only [AG.F, AG.main, List.append_assoc] at h1
  have h2 := h1.upd b.length (f := .own v d.e d.size (d.cnt post.length) (d.cont post.length)) (by simp) (.own u d.e d.size (d.cnt (post.length + 1)) (d.cont (post.length + 1))) hg ho hb
  rw [show ((b.map fun x => d.src x.1 x.2) ++ ([Fact.own v d.e d.size (d.cnt post.length) (d.cont post.length)] ++ F)).set b.length (.own u d.e d.size (d.cnt (post.length + 1)) (d.cont (post.length + 1))) = (b.map fun x => d.src x.1 x.2) ++ ([Fact.own u d.e d.size (d.cnt (post.length + 1)) (d.cont (post.length + 1))] ++ F) from by
    rw [List.set_append_right _ _ (by simp)]; simp] at h2
  simpa [AG.F, AG.main, List.append_assoc] using h2
theorem AJ.last {v : Value} {s : Nat} (h : AJ w0 F K d p) (hs : AtS p.2 s v) (ht : d.top = s + 1) : St w0 p.1 (.own v d.e d.size (d.cnt s) (d.cont s) :: F) K := by
  obtain ⟨post, h1, h2⟩ := hs.head (by have := h.2; omega)
  obtain ⟨w, r, b⟩ := p
  dsimp only at h1
  subst h1
  subst h2
  have h3 := h.1
  simp only [AG.F, AG.main, List.append_assoc] at h3
  exact h3.sub (List.sublist_append_right _ _)
variable {P : Program} {o : Oper} {a : Act} {Kt : Act → World → Prop} {Q : Exit → Act → World → Prop}
theorem chain_app (hnd : (kd.map (·.2)).Nodup) {s : Nat} (hki : akind kd i = some (true, s + 1)) {s1 x1 : Operand} {t : TypeId} {bytes m : Nat} {news : List Value} {D : Nat → Prop} (ho : o.op = .call { callee := .builtin .append, args := #[s1, x1], argTypes := #[t, t] }) (hT : SliceTy P t d.e d.size bytes) (hN : AN kd i p) (hs : AtS p.2 s (a.eval s1)) (hJ : AJ w0 F K d p)
    (hr : Sl p.1 D d.size (a.eval x1) m news) (h1 : ∀ u ∈ news, u.oneCell' = true) (hc : d.cont (s + 1) = d.cont s ++ news) (hcn : d.cnt (s + 1) = d.cnt s + m) (hb : d.cnt s + m ≤ 1000000000000) (hby : (d.cnt s + m) * bytes ≤ 140737488355328) (hlt : s + 1 < d.top)
    (hK : ∀ v w', AtS w'.2 (s + 1) v → AR w0 F K d p w' ∧ (∀ j, j ≠ i → AN kd j p → AN kd j w') → Kt (a.put o.dst v) w'.1) : o.wp P a p.1 Kt Q := by
  have hl : p.2.r.length ≤ s + 1 := by unfold AN at hN; rw [hki] at hN; exact hN
  obtain ⟨post, e1, e2⟩ := hs.head hl
  obtain ⟨hown, hsz⟩ := hJ.row e1
  rw [e2] at hown
  refine opw_app ho hT rfl hown rfl hr h1 hb hby hsz fun v' w' a1 a2 a3 => ?_
  refine hK v' (w', ⟨v' :: p.2.r, p.2.b⟩) ⟨[], p.2.r, rfl, by rw [e1, List.length_cons, e2]⟩ (AR.main hnd hki (by rw [e1, List.length_cons, e2]) fun hJ => hJ.next e1 ?_ a2 a3 (by omega))
  rw [e2, hc, hcn]
  exact a1
end
section
variable {P : Program} {o : Oper} {a : Act} {w : World} {Kt : Act → World → Prop} {Q : Exit → Act → World → Prop}
theorem opw_slh {t e : TypeId} {x h : Operand} {A : Option Addr} {n c k : Nat} (ho : o.op = .slice t x none (some h) none) (ht : P.underlying t = some (.slice e)) (hi : ∃ size, (P.info? e).map (·.size) = some size) (hx : a.eval x = .slice A n c) (hh : a.eval h = .int .i64 (k : Nat)) (hk : k ≤ c)
    (hK : Kt (a.put o.dst (.slice A k c)) w) : o.wp P a w Kt Q := by
  obtain ⟨size, hi⟩ := hi
  refine opw_val (v := .slice A k c) ?_ hK
  cases hz : P.info? e with
  | none => rw [hz] at hi; cases hi
  | some z =>
    have hke : ((k : Nat) : Int) ≤ c := by omega
    have : A.map (·.add (0 * z.size)) = A := by cases A <;> simp [Addr.add]
    simp [execOp, ho, hx, hh, Instr.sliceAt, Instr.slice, run_underlying ht, Instr.sliceBounds, run_sliceBound, sizeOf, typeInfo, hz, hke, Addr.add]
end
section
variable {P : Program} {w : World} {t : TypeId} {k : IntKind} {m n : Int} {b : Bool}
end
end Go.Proofs.YtihpgmbinhmmlaaDoor
namespace Go.Proofs.YtihpgmbinhmmlaaDoor
open Go.RowKit
attribute [local go_sem ↓] Go.wp_at_zero Go.wp_at_succ
set_option maxRecDepth 20000
set_option exponentiation.threshold 5000

section
variable {n : Nat} {L : List (Nat × Nat)}
open Classical in
theorem nAbove_lt' (hA : Acyc L) {b : Nat} (hb : b < n) : nAbove n L b < n := by
  have h := filt_lt (fun a => decide (TC L a b)) (fun _ => true) (List.range n) (fun _ _ _ => rfl) ⟨b, List.mem_range.2 hb, decide_eq_false (hA b), rfl⟩
  have e : (List.range n).filter (fun _ => true) = List.range n := List.filter_eq_self.2 fun _ _ => rfl
  rw [e, List.length_range] at h
  exact h
theorem Wk.lt (hL : Inr n L) (hA : Acyc L) {b k x : Nat} (hb : b < n) (h : Wk L b k x) : k < n := by
  have h1 := h.nAbove hL hA
  have h2 := nAbove_lt' hA hb
  omega
end
end Go.Proofs.YtihpgmbinhmmlaaDoor
namespace Go.Proofs.YtihpgmbinhmmlaaDoor
open Go.RowKit
attribute [local go_sem ↓] Go.wp_at_zero Go.wp_at_succ
set_option maxRecDepth 20000
set_option exponentiation.threshold 5000

structure WG where
  a : Option Value
  b : Option Value
  c : Option Value
  d : Option Value
  e : Bool
def ownP (L : List (Nat × Nat)) : Option Value → List Fact
  | some v => [.own v 63 2 L.length (pcells L)]
  | none => []
def WG.F (L : List (Nat × Nat)) (x : Nat × Nat) (g : WG) : List Fact := match g.c with
  | some v => [.own v 63 2 (L.length + 1) (pcells (L ++ [x]))]
  | none => ownP L g.a ++ ownP [x] g.b
def NewP (w0 : World) (F : List Fact) (K : (Nat → Prop) → World → Prop) (n : Nat) (M : List (Nat × Nat)) (r : Value) (w : World) : Prop :=
  (¬ Acyc M ∧ r = .tuple #[.pointer none, .int .i64 16] ∧ St w0 w F K) ∨
  ∃ (p : Value) (L : List (Nat × Nat)), r = .tuple #[p, .int .i64 0] ∧ Asc L ∧ (∀ x, x ∈ L ↔ x ∈ M) ∧ Acyc L ∧ St w0 w F fun D w => K D w ∧ IsOrd w D p n L
theorem NewP.shape {w0 w : World} {F : List Fact} {K : (Nat → Prop) → World → Prop} {n : Nat} {M : List (Nat × Nat)} {r : Value} (h : NewP w0 F K n M r w) : ∃ (p : Value) (e : Int), r = .tuple #[p, .int .i64 e] := by
  rcases h with ⟨_, rfl, _⟩ | ⟨p, L, rfl, _⟩ <;> exact ⟨_, _, rfl⟩
theorem NewP.mono {w0 w : World} {F : List Fact} {K K' : (Nat → Prop) → World → Prop} {n : Nat} {M : List (Nat × Nat)} {r : Value} (h : NewP w0 F K n M r w) (hs : Stable K') (hk : ∀ D w, K D w → K' D w) : NewP w0 F K' n M r w := by
  rcases h with ⟨h1, h2, h3⟩ | ⟨p, L, h1, h2, h3, h4, h5⟩
  · exact .inl ⟨h1, h2, h3.mono hs hk⟩
  · exact .inr ⟨p, L, h1, h2, h3, h4, h5.mono (hs.and stable_ord) fun D w h => ⟨hk D w h.1, h.2⟩⟩
section
variable {w0 : World} {F : List Fact} {K : (Nat → Prop) → World → Prop} {n : Nat} {L : List (Nat × Nat)} {x : Nat × Nat} {p p' : World × WG}
def WJ (w0 : World) (F : List Fact) (K : (Nat → Prop) → World → Prop) (n : Nat) (L : List (Nat × Nat)) (x : Nat × Nat) (p : World × WG) : Prop := match p.2.d with
  | none => St w0 p.1 (p.2.F L x ++ F) K
  | some r => NewP w0 F K n (L ++ [x]) r p.1
def WR (w0 : World) (F : List Fact) (K : (Nat → Prop) → World → Prop) (n : Nat) (L : List (Nat × Nat)) (x : Nat × Nat) (p p' : World × WG) : Prop :=
  (WJ w0 F K n L x p → WJ w0 F K n L x p') ∧ (∀ v, p.2.a = some v → p'.2.a = some v) ∧ (∀ v, p.2.b = some v → p'.2.b = some v) ∧ (∀ v, p.2.c = some v → p'.2.c = some v) ∧ (∀ v, p.2.d = some v → p'.2.d = some v) ∧ (p.2.e = true → p'.2.e = true)
theorem WR.refl (p : World × WG) : WR w0 F K n L x p p := ⟨id, fun _ h => h, fun _ h => h, fun _ h => h, fun _ h => h, id⟩
theorem WR.trans (a b c : World × WG) (h : WR w0 F K n L x a b) (k : WR w0 F K n L x b c) : WR w0 F K n L x a c :=
  ⟨fun y => k.1 (h.1 y), fun g y => k.2.1 g (h.2.1 g y), fun g y => k.2.2.1 g (h.2.2.1 g y), fun g y => k.2.2.2.1 g (h.2.2.2.1 g y), fun g y => k.2.2.2.2.1 g (h.2.2.2.2.1 g y), fun y => k.2.2.2.2.2 (h.2.2.2.2.2 y)⟩
theorem WJ.st (h : WJ w0 F K n L x p) (hd : p.2.d = none) : St w0 p.1 (p.2.F L x ++ F) K := by unfold WJ at h; rw [hd] at h; exact h
theorem WJ.mk {w : World} {g : WG} (hd : g.d = none) (h : St w0 w (g.F L x ++ F) K) : WJ w0 F K n L x (w, g) := by unfold WJ; dsimp only; rw [hd]; exact h
theorem WJ.mkA {w' : World} {v : Value} (h : WJ w0 F K n L x p) (hn : p.2.a = none ∧ p.2.c = none ∧ p.2.d = none) (hs : St p.1 w' [.own v 63 2 L.length (pcells L)] fun _ _ => True) : WJ w0 F K n L x (w', { p.2 with a := some v }) := by
  obtain ⟨w, a, b, c, d, e⟩ := p
  obtain ⟨rfl, rfl, rfl⟩ := hn
  exact WJ.mk rfl (St.new (h.st rfl) hs.below (.own v 63 2 L.length (pcells L)) (hs.own 0 rfl))
theorem WJ.mkB {w' : World} (h : WJ w0 F K n L x p) (hn : p.2.b = none ∧ p.2.c = none ∧ p.2.d = none) (hb : Below p.1.heap.size p.1 w') (hx : Box w' p.1.heap.size 63 #[.int .i64 (x.1 : Nat), .int .i64 (x.2 : Nat)]) : WJ w0 F K n L x (w', { p.2 with b := some (.slice (some ⟨p.1.heap.size, 0, none⟩) 1 1) }) := by
  obtain ⟨w, a, b, c, d, e⟩ := p
  obtain ⟨rfl, rfl, rfl⟩ := hn
  have h1 := St.new (h.st rfl) hb (.own (.slice (some ⟨w.heap.size, 0, none⟩) 1 1) 63 2 [x].length (pcells [x])) ⟨rfl, .inr ⟨w.heap.size, 1, _, rfl, Nat.le_refl _, hx, Nat.le_refl _, by simp [maxLen], rfl, rfl⟩⟩
  refine WJ.mk rfl ?_
  cases a with
  | none => exact h1
  | some v => exact h1.swap
theorem WJ.own (h : WJ w0 F K n L x p) (hn : p.2.c = none ∧ p.2.d = none) {v l : Value} (ha : p.2.a = some v) (hb : p.2.b = some l) : p.1.ownsRow w0.heap.size 63 2 v L.length (pcells L) ∧ p.1.ownsRow w0.heap.size 63 2 l 1 (pcells [x]) ∧ w0.heap.size ≤ p.1.heap.size := by
  obtain ⟨w, a, b, c, d, e⟩ := p
  obtain ⟨rfl, rfl⟩ := hn
  dsimp only at ha hb
  subst ha hb
  exact ⟨(h.st rfl).own 0 rfl, (h.st rfl).own 1 rfl, (h.st rfl).size⟩
theorem WJ.last (h : WJ w0 F K n L x p) (hd : p.2.d = none) {v : Value} (hc : p.2.c = some v) : St w0 p.1 (.own v 63 2 (L ++ [x]).length (pcells (L ++ [x])) :: F) K := by
  obtain ⟨w, a, b, c, d, e⟩ := p
  dsimp only at hd hc
  subst hd hc
  have := h.st rfl
  rw [List.length_append]
  exact this
end
end Go.Proofs.YtihpgmbinhmmlaaDoor
namespace Go.Proofs.YtihpgmbinhmmlaaDoor
open Go.RowKit

def TRuleS (P : Program) (ops : Array Oper) (T : Nat → Value → World → Prop) (sk : List Nat) (a0 : Act) (W : World) (Q : Exit → Act → World → Prop) (i : Nat) (o : Oper) : Prop :=
  ∀ a w, Below W.heap.size W w → (∀ t, (∀ (i : Nat) (o : Oper), sk.contains i = false → ops[i]? = some o → o.dst ≠ some t) → a.tmps.getD t undef = a0.tmps.getD t undef) →
    (∀ e ∈ o.after, Region.binds .any e = true → ∀ (oj : Oper) (d : Tmp), ops[e.on]? = some oj → oj.dst = some d → T e.on (a.tmps.getD d undef) w) →
    (Region.wanted o (yielded ops a.tmps) = true → ∀ K : Act → World → Prop, (∀ v w', T i v w' → Below w.heap.size w w' → K (a.put o.dst v) w') → o.wp P a w K Q) ∧
    (Region.wanted o (yielded ops a.tmps) = false → T i undef w)
section
variable {P : Program} {ops : Array Oper} {T : Nat → Value → World → Prop} {a0 : Act} {W : World} {Q : Exit → Act → World → Prop}
def TRulesS (P : Program) (ops : Array Oper) (T : Nat → Value → World → Prop) (a0 : Act) (W : World) (Q : Exit → Act → World → Prop) (skip : List Nat) : Nat → List Oper → Prop
  | _, [] => True
  | i, o :: r => (skip.contains i = true ∨ TRuleS P ops T skip a0 W Q i o) ∧ TRulesS P ops T a0 W Q skip (i + 1) r
theorem TRulesS.at {skip : List Nat} : ∀ (l : List Oper) (k : Nat), TRulesS P ops T a0 W Q skip k l → ∀ i o, l[i]? = some o → skip.contains (k + i) = true ∨ TRuleS P ops T skip a0 W Q (k + i) o
  | [], _, _, i, o, h => by simp at h
  | x :: r, k, hr, 0, o, h => by simp at h; subst h; exact hr.1
  | x :: r, k, hr, i + 1, o, h => by
    have := TRulesS.at r (k + 1) hr.2 i o (by simpa using h)
    rwa [show k + 1 + i = k + (i + 1) by omega] at this
end
end Go.Proofs.YtihpgmbinhmmlaaDoor
namespace Go.Proofs.YtihpgmbinhmmlaaDoor
open Go.RowKit
attribute [local go_sem ↓] Go.wp_at_zero Go.wp_at_succ
set_option maxRecDepth 20000
set_option exponentiation.threshold 5000

structure DG where
  a : Option Value
  c : Option Value
  d : Option Value
  e : Bool
section
variable {w0 : World} {F : List Fact} {K : (Nat → Prop) → World → Prop} {n : Nat} {L M : List (Nat × Nat)} {p p' : World × DG}
def DJ (w0 : World) (F : List Fact) (K : (Nat → Prop) → World → Prop) (n : Nat) (L M : List (Nat × Nat)) (p : World × DG) : Prop := match p.2.d with
  | none => St w0 p.1 ((match p.2.c with | some v => [.own v 63 2 M.length (pcells M)] | none => ownP L p.2.a) ++ F) K
  | some r => NewP w0 F K n M r p.1
def DR (w0 : World) (F : List Fact) (K : (Nat → Prop) → World → Prop) (n : Nat) (L M : List (Nat × Nat)) (p p' : World × DG) : Prop :=
  (DJ w0 F K n L M p → DJ w0 F K n L M p') ∧ (∀ v, p.2.a = some v → p'.2.a = some v) ∧ (∀ v, p.2.c = some v → p'.2.c = some v) ∧ (∀ v, p.2.d = some v → p'.2.d = some v) ∧ (p.2.e = true → p'.2.e = true)
theorem DR.refl (p : World × DG) : DR w0 F K n L M p p := ⟨id, fun _ h => h, fun _ h => h, fun _ h => h, id⟩
theorem DR.trans (a b c : World × DG) (h : DR w0 F K n L M a b) (k : DR w0 F K n L M b c) : DR w0 F K n L M a c :=
  ⟨fun y => k.1 (h.1 y), fun g y => k.2.1 g (h.2.1 g y), fun g y => k.2.2.1 g (h.2.2.1 g y), fun g y => k.2.2.2.1 g (h.2.2.2.1 g y), fun y => k.2.2.2.2 (h.2.2.2.2 y)⟩
theorem DJ.st (h : DJ w0 F K n L M p) (hd : p.2.d = none) : St w0 p.1 ((match p.2.c with | some v => [.own v 63 2 M.length (pcells M)] | none => ownP L p.2.a) ++ F) K := by unfold DJ at h; rw [hd] at h; exact h
theorem DJ.mkA {w' : World} {v : Value} (h : DJ w0 F K n L M p) (hn : p.2.a = none ∧ p.2.c = none ∧ p.2.d = none) (hs : St p.1 w' [.own v 63 2 L.length (pcells L)] fun _ _ => True) : DJ w0 F K n L M (w', { p.2 with a := some v }) := by
  obtain ⟨w, a, c, d, e⟩ := p
  obtain ⟨rfl, rfl, rfl⟩ := hn
  exact St.new (h.st rfl) hs.below (.own v 63 2 L.length (pcells L)) (hs.own 0 rfl)
theorem DJ.row (h : DJ w0 F K n L M p) (hn : p.2.c = none ∧ p.2.d = none) {v : Value} (ha : p.2.a = some v) : St w0 p.1 (.own v 63 2 L.length (pcells L) :: F) K := by
  obtain ⟨w, a, c, d, e⟩ := p
  obtain ⟨rfl, rfl⟩ := hn
  dsimp only at ha
  subst ha
  exact h.st rfl
theorem DJ.last (h : DJ w0 F K n L M p) (hd : p.2.d = none) {v : Value} (hc : p.2.c = some v) : St w0 p.1 (.own v 63 2 M.length (pcells M) :: F) K := by
  obtain ⟨w, a, c, d, e⟩ := p
  dsimp only at hd hc
  subst hd hc
  exact h.st rfl
end
end Go.Proofs.YtihpgmbinhmmlaaDoor
