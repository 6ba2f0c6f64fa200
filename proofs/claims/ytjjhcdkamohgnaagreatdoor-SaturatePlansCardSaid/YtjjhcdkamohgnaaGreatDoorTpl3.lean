/-
  What the statement needs, part 3.
-/
import Derived.Deep.Cut
import Derived.Deep.CutBlock
import Derived.Deep.MidRow
import Derived.Laws.CopyRow
import Derived.Laws.CopyOwn
import Derived.Laws.IdiomStrings
import Derived.Test.YtjjhcdkamohgnaaGreatDoorShelf
import Derived.Test.YtjjhcdkamohgnaaGreatDoorTpl2
namespace Go.Proofs.YtjjhcdkamohgnaaGreatDoor
section
open Go.RowKit
attribute [local go_sem ↓] Go.wp_at_zero Go.wp_at_succ
set_option maxRecDepth 20000
structure AG where
 r : List Value
 b : List (Nat × Value)
def Hg (g : AG) (s : Nat) (v : Value) : Prop := ∃ pre post, g.r = pre ++ v :: post /\ post.length = s
structure AD where
 e : TypeId
 size : Nat
 top : Nat
 cnt : Nat -> Nat
 cont : Nat -> List Value
 src : Nat -> Value -> Aj
def AG.main (d : AD) (g : AG) : List Aj := match g.r with
 | [] => []
 | v :: r => [.own v d.e d.size (d.cnt r.length) (d.cont r.length)]
def AG.F (d : AD) (g : AG) : List Aj := (g.b.map fun x => d.src x.1 x.2) ++ g.main d
def AJ (w0 : World) (F : List Aj) (K : (Nat -> Prop) -> World -> Prop) (d : AD) (p : World × AG) : Prop := St w0 p.1 (p.2.F d ++ F) K /\ p.2.r.length <= d.top
def AR (w0 : World) (F : List Aj) (K : (Nat -> Prop) -> World -> Prop) (d : AD) (p p' : World × AG) : Prop := (AJ w0 F K d p -> AJ w0 F K d p') /\ (∃ s, p'.2.r = s ++ p.2.r) /\ ∀ x, x ∈ p.2.b -> x ∈ p'.2.b
def FU (kd : List (Nat × (Bool × Nat))) (i : Nat) : Option (Bool × Nat) := (kd.find? fun x => x.1 == i).map (·.2)
def AN (kd : List (Nat × (Bool × Nat))) (i : Nat) (p : World × AG) : Prop := match FU kd i with
 | some (true, s) => p.2.r.length <= s
 | some (false, j) => ∀ v, (j, v) ∉ p.2.b
 | none => True
theorem akind_inj {kd : List (Nat × (Bool × Nat))} (h : (kd.map (·.2)).Nodup) {i j : Nat} {x : Bool × Nat} (hi : FU kd i = some x) (hj : FU kd j = some x) : i = j := by
 unfold FU at hi hj
 obtain ⟨y, hy, rfl⟩ := Option.map_eq_some_iff.1 hi
 obtain ⟨z, hz, he⟩ := Option.map_eq_some_iff.1 hj
 have e1 : y.1 = i := by simpa using List.find?_some hy
 have e2 : z.1 = j := by simpa using List.find?_some hz
 have m1 := List.mem_of_find?_eq_some hy
 have m2 := List.mem_of_find?_eq_some hz
 obtain ⟨a, ha, ea⟩ := List.getElem_of_mem m1
 obtain ⟨b, hb, eb⟩ := List.getElem_of_mem m2
 have hp := List.pairwise_iff_getElem.1 h
 have key : a = b := by
  rcases Nat.lt_trichotomy a b with q | q | q
  ·have := hp a b (by simpa using ha) (by simpa using hb) q
   simp [ea, eb, he] at this
  ·exact q
  ·have := hp b a (by simpa using hb) (by simpa using ha) q
   simp [ea, eb, he] at this
 subst key
 rw [ea] at eb
 rw [<- e1, <- e2, eb]
theorem Jz (kd : List (Nat × (Bool × Nat))) (w : World) (i : Nat) : AN kd i (w, ⟨[], []⟩) := by
 unfold AN
 split
 ·exact Nat.zero_le _
 ·simp
 ·trivial
theorem Hg.mono {g g' : AG} {s : Nat} {v : Value} (h : Hg g s v) (k : ∃ t, g'.r = t ++ g.r) : Hg g' s v := by
 obtain ⟨pre, post, h1, h2⟩ := h
 obtain ⟨t, k⟩ := k
 exact ⟨t ++ pre, post, by rw [k, h1, List.append_assoc], h2⟩
theorem Hg.head {g : AG} {s : Nat} {v : Value} (h : Hg g s v) (hl : g.r.length <= s + 1) : ∃ post, g.r = v :: post /\ post.length = s := by
 obtain ⟨pre, post, h1, h2⟩ := h
 rw [h1, List.length_append, List.length_cons] at hl
 have : pre = [] := List.eq_nil_of_length_eq_zero (by omega)
 subst this
 exact ⟨post, h1, h2⟩
theorem St.permC {w0 w : World} {F F' : List Aj} {K : (Nat -> Prop) -> World -> Prop} (h : St w0 w F K) (hp : F.Perm F') : St w0 w F' K := by
 refine ⟨h.below, fun f hf => h.holds f (hp.mem_iff.2 hf), hp.pairwise h.apart fun {a b} q k hk e => q k e hk, h.stable, h.stable _ _ _ _ h.ro (Nat.le_refl _) (fun _ _ _ _ h => h) fun k h1 _ _ f hf => h1 f (hp.mem_iff.2 hf)⟩
section
variable {w0 : World} {F : List Aj} {K : (Nat -> Prop) -> World -> Prop} {d : AD} {p p' : World × AG} {kd : List (Nat × (Bool × Nat))} {i : Nat}
theorem AR.refl (p : World × AG) : AR w0 F K d p p := ⟨id, ⟨[], rfl⟩, fun _ h => h⟩
theorem AR.trans (a b c : World × AG) (h : AR w0 F K d a b) (k : AR w0 F K d b c) : AR w0 F K d a c := by
 obtain ⟨s, hs⟩ := h.2.1
 obtain ⟨t, ht⟩ := k.2.1
 exact ⟨fun y => k.1 (h.1 y), ⟨t ++ s, by rw [ht, hs, List.append_assoc]⟩, fun x hx => k.2.2 x (h.2.2 x hx)⟩
theorem AR.src (hnd : (kd.map (·.2)).Nodup) {j : Nat} (hki : FU kd i = some (false, j)) {w' : World} {v : Value} (hb : Below p.1.heap.size p.1 w') (hf : (d.src j v).holds p.1.heap.size w') : AR w0 F K d p (w', ⟨p.2.r, (j, v) :: p.2.b⟩) /\ ∀ t, t ≠ i -> AN kd t p -> AN kd t (w', ⟨p.2.r, (j, v) :: p.2.b⟩) := by
 refine ⟨⟨fun h => ⟨h.1.new hb _ hf, h.2⟩, ⟨[], rfl⟩, fun _ h => List.mem_cons_of_mem _ h⟩, fun t ht h => ?_⟩
 unfold AN at *
 split
 ·rename_i s hs
  rw [hs] at h
  exact h
 ·rename_i q hq
  rw [hq] at h
  intro v' hv'
  rcases List.mem_cons.1 hv' with e | e
  ·injection e with e _
   subst e
   exact ht (akind_inj hnd hq hki)
  ·exact h v' e
 ·trivial
theorem AR.main (hnd : (kd.map (·.2)).Nodup) {s : Nat} (hki : FU kd i = some (true, s)) {w' : World} {v : Value} (hl : p.2.r.length = s) (hJ : AJ w0 F K d p -> AJ w0 F K d (w', ⟨v :: p.2.r, p.2.b⟩)) : AR w0 F K d p (w', ⟨v :: p.2.r, p.2.b⟩) /\ ∀ t, t ≠ i -> AN kd t p -> AN kd t (w', ⟨v :: p.2.r, p.2.b⟩) := by
 refine ⟨⟨hJ, ⟨[v], rfl⟩, fun _ h => h⟩, fun t ht h => ?_⟩
 unfold AN at *
 split
 ·rename_i q hq
  rw [hq] at h
  have : q ≠ s := fun e => ht (akind_inj hnd (e ▸ hq) hki)
  show p.2.r.length + 1 <= q
  have : p.2.r.length <= q := h
  omega
 ·rename_i q hq
  rw [hq] at h
  exact h
 ·trivial
theorem AJ.start {w' : World} {v : Value} (h : AJ w0 F K d p) (h0 : p.2.r = []) (hb : Below p.1.heap.size p.1 w') (hf : (Aj.own v d.e d.size (d.cnt 0) (d.cont 0)).holds p.1.heap.size w') (ht : 0 < d.top) : AJ w0 F K d (w', ⟨v :: p.2.r, p.2.b⟩) := by
 obtain ⟨w, r, b⟩ := p
 dsimp only at h0
 subst h0
 refine ⟨(h.1.new hb _ hf).permC ?_, ht⟩
 simp only [AG.F, AG.main, List.append_nil, List.append_assoc]
 exact List.perm_middle.symm
theorem AJ.row {v : Value} {post : List Value} (h : AJ w0 F K d p) (hr : p.2.r = v :: post) : p.1.ownsRow w0.heap.size d.e d.size v (d.cnt post.length) (d.cont post.length) /\ w0.heap.size <= p.1.heap.size := by
 obtain ⟨w, r, b⟩ := p
 dsimp only at hr
 subst hr
 exact ⟨h.1.holds (.own v d.e d.size (d.cnt post.length) (d.cont post.length)) (by simp [AG.F, AG.main]), h.1.size⟩
theorem AJ.next {w' : World} {v u : Value} {post : List Value} (h : AJ w0 F K d p) (hr : p.2.r = v :: post) (ho : w'.ownsRow w0.heap.size d.e d.size u (d.cnt (post.length + 1)) (d.cont (post.length + 1))) (hg : p.1.grownBy w' v.ownBlock) (hb : ∀ k, u.ownBlock = some k -> v.ownBlock = some k \/ p.1.heap.size <= k) (ht : post.length + 1 < d.top) : AJ w0 F K d (w', ⟨u :: p.2.r, p.2.b⟩) := by
 obtain ⟨w, r, b⟩ := p
 dsimp only at hr
 subst hr
 refine ⟨?_, by simp; omega⟩
 have h1 := h.1
 simp only [AG.F, AG.main, List.append_assoc] at h1
 have h2 := h1.upd b.length (f := .own v d.e d.size (d.cnt post.length) (d.cont post.length)) (by simp) (.own u d.e d.size (d.cnt (post.length + 1)) (d.cont (post.length + 1))) hg ho hb
 rw [show ((b.map fun x => d.src x.1 x.2) ++ ([Aj.own v d.e d.size (d.cnt post.length) (d.cont post.length)] ++ F)).set b.length (.own u d.e d.size (d.cnt (post.length + 1)) (d.cont (post.length + 1))) = (b.map fun x => d.src x.1 x.2) ++ ([Aj.own u d.e d.size (d.cnt (post.length + 1)) (d.cont (post.length + 1))] ++ F) from by
  rw [List.set_append_right _ _ (by simp)]; simp] at h2
 simpa [AG.F, AG.main, List.append_assoc] using h2
theorem AJ.side {j : Nat} {v : Value} (h : AJ w0 F K d p) (hm : (j, v) ∈ p.2.b) : (d.src j v).holds w0.heap.size p.1 :=
 h.1.holds _ (List.mem_append_left _ (List.mem_append_left _ (List.mem_map.2 ⟨_, hm, rfl⟩)))
theorem AJ.last {v : Value} {s : Nat} (h : AJ w0 F K d p) (hs : Hg p.2 s v) (ht : d.top = s + 1) : St w0 p.1 (.own v d.e d.size (d.cnt s) (d.cont s) :: F) K := by
 obtain ⟨post, h1, h2⟩ := hs.head (by have := h.2; omega)
 obtain ⟨w, r, b⟩ := p
 dsimp only at h1
 subst h1
 subst h2
 have h3 := h.1
 simp only [AG.F, AG.main, List.append_assoc] at h3
 exact h3.sub (List.sublist_append_right _ _)
variable {P : Program} {o : Oper} {a : Act} {Kt : Act -> World -> Prop} {Q : Exit -> Act -> World -> Prop}
theorem Fk (hnd : (kd.map (·.2)).Nodup) (hki : FU kd i = some (true, 0)) {t : TypeId} (ho : o.op = .buildSlice t 0 #[]) (ht : P.underlying t = some (.slice d.e)) (hb : BW P d.e 0 [] = some #[]) (hN : AN kd i p) (h0 : d.cnt 0 = 0) (h1 : d.cont 0 = []) (hlt : 0 < d.top)
  (hK : ∀ v w', Hg w'.2 0 v -> AR w0 F K d p w' /\ (∀ j, j ≠ i -> AN kd j p -> AN kd j w') -> Kt (a.put o.dst v) w'.1) : o.wp P a p.1 Kt Q := by
 have hl : p.2.r.length <= 0 := by unfold AN at hN; rw [hki] at hN; exact hN
 have hr : p.2.r = [] := List.eq_nil_of_length_eq_zero (by omega)
 refine Bj (ps := []) (cells := #[]) ho ht (by simp) hb fun w' hx hB => ?_
 refine hK _ (w', ⟨_ :: p.2.r, p.2.b⟩) ⟨[], p.2.r, rfl, by rw [hr]; rfl⟩ (AR.main hnd hki (by omega) fun hJ => hJ.start hr hB ?_ hlt)
 rw [h0, h1]
 exact ⟨by simp, .inr ⟨p.1.heap.size, 0, #[], rfl, Nat.le_refl _, hx, Nat.le_refl _, by simp [maxLen], by simp, by simp⟩⟩
theorem Ga (hnd : (kd.map (·.2)).Nodup) {j : Nat} (hki : FU kd i = some (false, j)) {t e : TypeId} {len : Nat} {parts : Array (Nat × Operand)} (ho : o.op = .buildSlice t len parts) (ht : P.underlying t = some (.slice e)) {ps : List (Nat × Value)} {cells : Array Value} (hp : (parts.map fun (i, x) => (i, a.eval x)).toList = ps) (hb : BW P e len ps = some cells) {size : Nat} (hsrc : ∀ v, d.src j v = .own v e size len cells.toList) (hs : cells.size = len * size) (hm : len <= 1000000000000)
  (hK : ∀ v w', (j, v) ∈ w'.2.b -> AR w0 F K d p w' /\ (∀ j, j ≠ i -> AN kd j p -> AN kd j w') -> Kt (a.put o.dst v) w'.1) : o.wp P a p.1 Kt Q := by
 refine Bj (ps := ps) (cells := cells) ho ht hp hb fun w' hx hB => ?_
 refine hK _ (w', ⟨p.2.r, (j, _) :: p.2.b⟩) (List.mem_cons_self ..) (AR.src hnd hki hB ?_)
 rw [hsrc]
 exact ⟨by simpa using hs, .inr ⟨p.1.heap.size, len, cells, rfl, Nat.le_refl _, hx, Nat.le_refl _, by unfold maxLen; omega, hs, by rw [<- hs, show cells.size = cells.toList.length by simp, List.take_length]⟩⟩
theorem Cg (hnd : (kd.map (·.2)).Nodup) {s : Nat} (hki : FU kd i = some (true, s + 1)) {s1 x1 : Operand} {t : TypeId} {bytes m : Nat} {news : List Value} {D : Nat -> Prop} (ho : o.op = .call { callee := .builtin .append, args := #[s1, x1], argTypes := #[t, t] }) (hT : Bz P t d.e d.size bytes) (hN : AN kd i p) (hs : Hg p.2 s (a.eval s1)) (hJ : AJ w0 F K d p)
  (hr : Sl p.1 D d.size (a.eval x1) m news) (h1 : ∀ u ∈ news, u.oneCell' = true) (hc : d.cont (s + 1) = d.cont s ++ news) (hcn : d.cnt (s + 1) = d.cnt s + m) (hb : d.cnt s + m <= 1000000000000) (hby : (d.cnt s + m) * bytes <= 140737488355328) (hlt : s + 1 < d.top)
  (hK : ∀ v w', Hg w'.2 (s + 1) v -> AR w0 F K d p w' /\ (∀ j, j ≠ i -> AN kd j p -> AN kd j w') -> Kt (a.put o.dst v) w'.1) : o.wp P a p.1 Kt Q := by
 have hl : p.2.r.length <= s + 1 := by unfold AN at hN; rw [hki] at hN; exact hN
 obtain ⟨post, e1, e2⟩ := hs.head hl
 obtain ⟨hown, hsz⟩ := hJ.row e1
 rw [e2] at hown
 refine Du ho hT rfl hown rfl hr h1 hb hby hsz fun v' w' a1 a2 a3 => ?_
 refine hK v' (w', ⟨v' :: p.2.r, p.2.b⟩) ⟨[], p.2.r, rfl, by rw [e1, List.length_cons, e2]⟩ (AR.main hnd hki (by rw [e1, List.length_cons, e2]) fun hJ => hJ.next e1 ?_ a2 a3 (by omega))
 rw [e2, hc, hcn]
 exact a1
end
section
variable {P : Program} {o : Oper} {a : Act} {w : World} {Kt : Act -> World -> Prop} {Q : Exit -> Act -> World -> Prop}
theorem Ix {t e : TypeId} {x h : Operand} {A : Option Addr} {n c k : Nat} (ho : o.op = .slice t x none (some h) none) (ht : P.underlying t = some (.slice e)) (hi : ∃ size, (P.info? e).map (·.size) = some size) (hx : a.eval x = .slice A n c) (hh : a.eval h = .int .i64 (k : Nat)) (hk : k <= c)
  (hK : Kt (a.put o.dst (.slice A k c)) w) : o.wp P a w Kt Q := by
 obtain ⟨size, hi⟩ := hi
 refine Cl (v := .slice A k c) ?_ hK
 cases hz : P.info? e with
 | none => rw [hz] at hi; cases hi
 | some z =>
  have hke : ((k : Nat) : Int) <= c := by omega
  have : A.map (·.add (0 * z.size)) = A := by cases A <;> simp [Addr.add]
  simp [execOp, ho, hx, hh, Instr.sliceAt, Instr.slice, run_underlying ht, Instr.sliceBounds, run_sliceBound, sizeOf, typeInfo, hz, hke, Addr.add]
theorem opw_sll {t e : TypeId} {x h : Operand} {A : Option Addr} {n c k size : Nat} (ho : o.op = .slice t x (some h) none none) (ht : P.underlying t = some (.slice e)) (hi : (P.info? e).map (·.size) = some size) (hx : a.eval x = .slice A n c) (hh : a.eval h = .int .i64 (k : Nat)) (hk : k <= n) (hn : n <= c)
  (hK : Kt (a.put o.dst (sliced A k n c size)) w) : o.wp P a w Kt Q := by
 refine Cl (v := sliced A k n c size) ?_ hK
 cases hz : P.info? e with
 | none => rw [hz] at hi; cases hi
 | some z =>
  have hs : z.size = size := by simpa [hz] using hi
  have hke : ((k : Nat) : Int) <= n := by omega
  simp [execOp, ho, hx, hh, Instr.sliceAt, Instr.slice, run_underlying ht, Instr.sliceBounds, run_sliceBound, sizeOf, typeInfo, hz, hke, sliced, hs, hn]
end
section
variable {P : Program} {w : World} {t : TypeId} {k : IntKind} {m n : Int} {b : Bool}
theorem Iv (h : decide (m = n) = b) : (binOp .eql t (.int k m) (.int k n)).run P w = .ok (.bool b) w := by
 rw [binOp_eql, <- h]; simp [BEq.beq]
theorem run_ltB (h : decide (m < n) = b) : (binOp .lss t (.int k m) (.int k n)).run P w = .ok (.bool b) w := by
 rw [binOp_lss, <- h]; simp
theorem run_gtB (h : decide (m > n) = b) : (binOp .gtr t (.int k m) (.int k n)).run P w = .ok (.bool b) w := by
 rw [binOp_gtr, <- h]; simp
end
theorem IO {w : World} {D : Nat -> Prop} {size n c k : Nat} {A : Option Addr} {xs : List Value} (h : Sl w D size (.slice A n c) n xs) (hk : k <= n) : Sl w D size (.slice A k c) k (xs.take (k * size)) := by
 obtain ⟨h1, A2, c2, h2, h3, h4, h5⟩ := h
 injection h2 with h2 h6 h7
 subst h2 h7
 have hle : k * size <= n * size := Nat.mul_le_mul_right _ hk
 refine ⟨by rw [List.length_take]; omega, A, c, rfl, by omega, h4, fun hp => ?_⟩
 obtain ⟨b, o, q1, q2, q3, q4⟩ := h5 (by omega)
 refine ⟨b, o, q1, q2, q3, fun j x hj => q4 j x ?_⟩
 rw [List.getElem?_take] at hj
 split at hj
 ·exact hj
 ·cases hj
theorem IP {w : World} {D : Nat -> Prop} {size n c k : Nat} {A : Option Addr} {xs : List Value} (h : Sl w D size (.slice A n c) n xs) (hk : k <= n) : Sl w D size (sliced A k n c size) (n - k) (xs.drop (k * size)) := by
 obtain ⟨h1, A2, c2, h2, h3, h4, h5⟩ := h
 injection h2 with h2 h6 h7
 subst h2 h7
 have hle : k * size <= n * size := Nat.mul_le_mul_right _ hk
 refine ⟨by rw [List.length_drop, h1, Nat.sub_mul], _, c - k, rfl, by omega, by omega, fun hp => ?_⟩
 obtain ⟨b, o, rfl, q2, q3, q4⟩ := h5 (by omega)
 rw [if_neg (by omega)]
 refine ⟨b, o + k * size, ?_, q2, q3, fun j x hj => ?_⟩
 ·simp only [Option.map_some, Addr.add]
  split
  ·rename_i h0; rw [h0]; rfl
  ·rfl
 ·rw [List.getElem?_drop] at hj
  have := q4 _ x hj
  rw [<- Nat.add_assoc] at this
  exact this
end
section
open Go.RowKit
attribute [local go_sem ↓] Go.wp_at_zero Go.wp_at_succ
set_option maxRecDepth 20000
set_option exponentiation.threshold 5000
structure WG where
 a : Option Value
 b : Option Value
 c : Option Value
 d : Option Value
 e : Bool
def ownP (L : List (Nat × Nat)) : Option Value -> List Aj
 | some v => [.own v 151 2 L.length (Ah L)]
 | none => []
def WG.F (L : List (Nat × Nat)) (x : Nat × Nat) (g : WG) : List Aj := match g.c with
 | some v => [.own v 151 2 (L.length + 1) (Ah (L ++ [x]))]
 | none => ownP L g.a ++ ownP [x] g.b
def NewP (w0 : World) (F : List Aj) (K : (Nat -> Prop) -> World -> Prop) (n : Nat) (M : List (Nat × Nat)) (r : Value) (w : World) : Prop :=
 (¬ DS M /\ r = .tuple #[.pointer none, .int .i64 16] /\ St w0 w F K) \/
 ∃ (p : Value) (L : List (Nat × Nat)), r = .tuple #[p, .int .i64 0] /\ Asc L /\ (∀ x, x ∈ L ↔ x ∈ M) /\ DS L /\ St w0 w F fun D w => K D w /\ FY w D p n L
theorem NewP.shape {w0 w : World} {F : List Aj} {K : (Nat -> Prop) -> World -> Prop} {n : Nat} {M : List (Nat × Nat)} {r : Value} (h : NewP w0 F K n M r w) : ∃ (p : Value) (e : Int), r = .tuple #[p, .int .i64 e] := by
 rcases h with ⟨_, rfl, _⟩ | ⟨p, L, rfl, _⟩ <;> exact ⟨_, _, rfl⟩
theorem NewP.mono {w0 w : World} {F : List Aj} {K K' : (Nat -> Prop) -> World -> Prop} {n : Nat} {M : List (Nat × Nat)} {r : Value} (h : NewP w0 F K n M r w) (hs : AK K') (hk : ∀ D w, K D w -> K' D w) : NewP w0 F K' n M r w := by
 rcases h with ⟨h1, h2, h3⟩ | ⟨p, L, h1, h2, h3, h4, h5⟩
 ·exact .inl ⟨h1, h2, h3.mono hs hk⟩
 ·exact .inr ⟨p, L, h1, h2, h3, h4, h5.mono (hs.and Cy) fun D w h => ⟨hk D w h.1, h.2⟩⟩
theorem onew_own {w0 w : World} {F : List Aj} {K : (Nat -> Prop) -> World -> Prop} (n : Nat) (L0 : List (Nat × Nat)) (pv : Value) (hn : n <= 256) (hL : ES n L0) (hl : L0.length <= 1000000) (hS : St w0 w (.own pv 151 2 L0.length (Ah L0) :: F) K)
  (kt : ∀ D w, K D w -> Bx w /\ D 0) :
  Calls Tryz.prog 88 #[.int .i64 (n : Nat), pv] w fun e w' => ∃ v, e = .returned v /\ NewP w0 F K n L0 v w' := by
 have KS := hS.stable
 refine (onew_any n L0 pv hn hL hl (hS.freeze 0 (by decide) rfl) (fun D w h => h.2) fun D w h => kt D w h.1).mono ?_
 rintro e w' (⟨h1, rfl, h2⟩ | ⟨p, L, rfl, h1, h2, h3, h4⟩)
 ·exact ⟨_, rfl, .inl ⟨h1, rfl, h2.mono KS fun _ _ h => h.1⟩⟩
 ·exact ⟨_, rfl, .inr ⟨p, L, rfl, h1, h2, h3, h4.mono (KS.and Cy) fun _ _ h => ⟨h.1.1, h.2⟩⟩⟩
section
variable {w0 : World} {F : List Aj} {K : (Nat -> Prop) -> World -> Prop} {n : Nat} {L : List (Nat × Nat)} {x : Nat × Nat} {p p' : World × WG}
def WJ (w0 : World) (F : List Aj) (K : (Nat -> Prop) -> World -> Prop) (n : Nat) (L : List (Nat × Nat)) (x : Nat × Nat) (p : World × WG) : Prop := match p.2.d with
 | none => St w0 p.1 (p.2.F L x ++ F) K
 | some r => NewP w0 F K n (L ++ [x]) r p.1
def WR (w0 : World) (F : List Aj) (K : (Nat -> Prop) -> World -> Prop) (n : Nat) (L : List (Nat × Nat)) (x : Nat × Nat) (p p' : World × WG) : Prop :=
 (WJ w0 F K n L x p -> WJ w0 F K n L x p') /\ (∀ v, p.2.a = some v -> p'.2.a = some v) /\ (∀ v, p.2.b = some v -> p'.2.b = some v) /\ (∀ v, p.2.c = some v -> p'.2.c = some v) /\ (∀ v, p.2.d = some v -> p'.2.d = some v) /\ (p.2.e = true -> p'.2.e = true)
theorem WR.refl (p : World × WG) : WR w0 F K n L x p p := ⟨id, fun _ h => h, fun _ h => h, fun _ h => h, fun _ h => h, id⟩
theorem WR.trans (a b c : World × WG) (h : WR w0 F K n L x a b) (k : WR w0 F K n L x b c) : WR w0 F K n L x a c :=
 ⟨fun y => k.1 (h.1 y), fun g y => k.2.1 g (h.2.1 g y), fun g y => k.2.2.1 g (h.2.2.1 g y), fun g y => k.2.2.2.1 g (h.2.2.2.1 g y), fun g y => k.2.2.2.2.1 g (h.2.2.2.2.1 g y), fun y => k.2.2.2.2.2 (h.2.2.2.2.2 y)⟩
theorem WJ.st (h : WJ w0 F K n L x p) (hd : p.2.d = none) : St w0 p.1 (p.2.F L x ++ F) K := by unfold WJ at h; rw [hd] at h; exact h
theorem WJ.mk {w : World} {g : WG} (hd : g.d = none) (h : St w0 w (g.F L x ++ F) K) : WJ w0 F K n L x (w, g) := by unfold WJ; dsimp only; rw [hd]; exact h
theorem WJ.mkA {w' : World} {v : Value} (h : WJ w0 F K n L x p) (hn : p.2.a = none /\ p.2.c = none /\ p.2.d = none) (hs : St p.1 w' [.own v 151 2 L.length (Ah L)] fun _ _ => True) : WJ w0 F K n L x (w', { p.2 with a := some v }) := by
 obtain ⟨w, a, b, c, d, e⟩ := p
 obtain ⟨rfl, rfl, rfl⟩ := hn
 exact WJ.mk rfl (St.new (h.st rfl) hs.below (.own v 151 2 L.length (Ah L)) (hs.own 0 rfl))
theorem WJ.mkB {w' : World} (h : WJ w0 F K n L x p) (hn : p.2.b = none /\ p.2.c = none /\ p.2.d = none) (hb : Below p.1.heap.size p.1 w') (hx : Co w' p.1.heap.size 151 #[.int .i64 (x.1 : Nat), .int .i64 (x.2 : Nat)]) : WJ w0 F K n L x (w', { p.2 with b := some (.slice (some ⟨p.1.heap.size, 0, none⟩) 1 1) }) := by
 obtain ⟨w, a, b, c, d, e⟩ := p
 obtain ⟨rfl, rfl, rfl⟩ := hn
 have h1 := St.new (h.st rfl) hb (.own (.slice (some ⟨w.heap.size, 0, none⟩) 1 1) 151 2 [x].length (Ah [x])) ⟨rfl, .inr ⟨w.heap.size, 1, _, rfl, Nat.le_refl _, hx, Nat.le_refl _, by simp [maxLen], rfl, rfl⟩⟩
 refine WJ.mk rfl ?_
 cases a with
 | none => exact h1
 | some v => exact h1.swap
theorem WJ.mkC {w' : World} {u v l : Value} (h : WJ w0 F K n L x p) (hn : p.2.c = none /\ p.2.d = none) (ha : p.2.a = some v) (hb : p.2.b = some l) (h1 : w'.ownsRow w0.heap.size 151 2 u (L.length + 1) (Ah L ++ Ah [x])) (h2 : p.1.grownBy w' v.ownBlock) (h3 : ∀ k, u.ownBlock = some k -> v.ownBlock = some k \/ p.1.heap.size <= k) : WJ w0 F K n L x (w', { p.2 with c := some u }) := by
 obtain ⟨w, a, b, c, d, e⟩ := p
 obtain ⟨rfl, rfl⟩ := hn
 dsimp only at ha hb
 subst ha hb
 refine WJ.mk rfl ?_
 rw [<- CT] at h1
 exact ((h.st rfl).upd 0 rfl (.own u 151 2 (L.length + 1) (Ah (L ++ [x]))) h2 h1 h3).sub (.cons_cons _ (.cons _ (List.Sublist.refl _)))
theorem WJ.own (h : WJ w0 F K n L x p) (hn : p.2.c = none /\ p.2.d = none) {v l : Value} (ha : p.2.a = some v) (hb : p.2.b = some l) : p.1.ownsRow w0.heap.size 151 2 v L.length (Ah L) /\ p.1.ownsRow w0.heap.size 151 2 l 1 (Ah [x]) /\ w0.heap.size <= p.1.heap.size := by
 obtain ⟨w, a, b, c, d, e⟩ := p
 obtain ⟨rfl, rfl⟩ := hn
 dsimp only at ha hb
 subst ha hb
 exact ⟨(h.st rfl).own 0 rfl, (h.st rfl).own 1 rfl, (h.st rfl).size⟩
theorem WJ.last (h : WJ w0 F K n L x p) (hd : p.2.d = none) {v : Value} (hc : p.2.c = some v) : St w0 p.1 (.own v 151 2 (L ++ [x]).length (Ah (L ++ [x])) :: F) K := by
 obtain ⟨w, a, b, c, d, e⟩ := p
 dsimp only at hd hc
 subst hd hc
 have := h.st rfl
 rw [List.length_append]
 exact this
end
theorem owith_any {w0 w : World} {F : List Aj} {K : (Nat -> Prop) -> World -> Prop} (p : Value) (n : Nat) (L : List (Nat × Nat)) (a b : Nat) (hn : n <= 256) (hL : ES n L) (hl : L.length <= 900000) (ha : a < n) (hb : b < n) (hS : St w0 w F K)
  (ko : ∀ D w, K D w -> FY w D p n L) (kt : ∀ D w, K D w -> Bx w /\ D 0) :
  Calls Tryz.prog 130 #[p, .int .i64 (a : Nat), .int .i64 (b : Nat)] w fun e w' =>
   ((a, b) ∈ L /\ e = .returned (.tuple #[.pointer none, .int .i64 5]) /\ St w0 w' F K) \/ (a, b) ∉ L /\ ∃ v, e = .returned v /\ NewP w0 F K n (L ++ [(a, b)]) v w' := by
 have KS := hS.stable
 obtain ⟨q, gp, av, bv, sv, xa, xb, rfl, hX⟩ := ko _ _ hS.ro
 have hS := hS.add DU hX fun b h _ => h
 clear hX
 have HIN := Lib.hid (fun (c : Int) (w : World) (hc : 0 <= c /\ c < (n : Int)) (h : OrdX q gp av bv sv xa xb n L (CW F) w) => show Calls Tryz.prog 135 #[.pointer (some ⟨q, 0, none⟩), .int .i64 c] w (AM (fun x _ => x = .bool true) w) from by rw [<- decide_eq_true hc]; exact GQ h.ord _)
 have HCN := Lib.hid (fun (w : World) (h : OrdX q gp av bv sv xa xb n L (CW F) w) => show Calls Tryz.prog 144 #[.slice (some ⟨gp, 0, none⟩) L.length L.length, .agg #[.int .i64 (a : Nat), .int .i64 (b : Nat)]] w (AM (fun r _ => r = .bool (decide ((a, b) ∈ L))) w) from pcontains_any (by omega) h.2.1 (a, b))
 have HL := Lib.hid hL
 clear hL
 go_enter Tryz.func130, Tryz.ntmps130
 go_wp2_with (first
  | ((with_reducible refine qB ?_); refine qc ?_ ?_ <;> intro h_ <;> go_prune)
  | (go_at_call 135; refine (HIN.out _ _ (by omega) hS.ro.2).mono ?_; rintro r_ w_ ⟨_, rfl, rfl, hb_⟩; replace hS := hS.ext hb_; clear hb_)
  | ((with_reducible refine qA 23 ?_); refine D7 hS rfl _ _ rfl _ rfl _ (fun D w h => h.2.1.cell 1 rfl) (by kernel_rfl) ?_)
  | (go_at_call 144; refine (HCN.out _ hS.ro.2).mono ?_; rintro r_ w_ ⟨_, rfl, rfl, hb_⟩; replace hS := hS.ext hb_; clear hb_; by_cases hx : (a, b) ∈ L <;> (first | rw [decide_eq_true hx] | rw [decide_eq_false hx])))
 ·go_ret2
  exact .inl ⟨hx, rfl, hS.mono KS fun _ _ h => h.1⟩
 ·obtain ⟨KX, k1, k2, hS⟩ : ∃ KX : (Nat -> Prop) -> World -> Prop, (∀ D w, KX D w -> K D w) /\ (∀ D w, KX D w -> OrdX q gp av bv sv xa xb n L D w) /\ St w0 w_ F KX := ⟨_, fun _ _ h => h.1, fun _ _ h => h.2, hS⟩
  have hJ0 : WJ w0 F KX n L (a, b) (w_.drew, ⟨none, none, none, none, false⟩) := WJ.mk rfl hS.drew
  have hRr := @WR.refl w0 F KX n L (a, b)
  have hRt := @WR.trans w0 F KX n L (a, b)
  have hLx : Hid (ES n (L ++ [(a, b)])) := Lib.hid fun y hy => by
   rcases List.mem_append.1 hy with h | h
   ·exact HL.out y h
   ·rw [List.mem_singleton] at h; subst h; exact ⟨ha, hb⟩
  replace ha := Lib.hid ha
  replace hb := Lib.hid hb
  clear HIN HCN
  refine EN (WR w0 F KX n L (a, b)) (fun i p => match i with | 3 => p.2.e = false /\ p.2.d = none | 5 => p.2.a = none /\ p.2.c = none /\ p.2.d = none | 9 => p.2.b = none /\ p.2.c = none /\ p.2.d = none | 10 => p.2.c = none /\ p.2.d = none | 11 => p.2.d = none | _ => True) (⟨none, none, none, none, false⟩) hRr hRt [.q q 0, .q q 0, .q q 0, .s (fun v w => w.2.e = true /\ v = .int .i64 ((n : Nat) : Int)) fun v w w' h hb => ⟨hb.2.2.2.2.2 h.1, h.2⟩, .q q 0, .s (fun v w => w.2.a = some v) fun v w w' h hb => hb.2.1 _ h, .n ((a : Nat) : Int), .n ((b : Nat) : Int), .i (.agg #[.int .i64 ((a : Nat) : Int), .int .i64 ((b : Nat) : Int)]), .s (fun v w => w.2.b = some v) fun v w w' h hb => hb.2.2.1 _ h, .s (fun v w => w.2.c = some v) fun v w w' h hb => hb.2.2.2.1 _ h, .s (fun v w => w.2.d = some v /\ ∃ (p : Value) (e : Int), v = .tuple #[p, .int .i64 e]) fun v w w' h hb => ⟨hb.2.2.2.2.1 _ h.1, h.2⟩, .s (fun v w => ∃ (p : Value) (e : Int), w.2.d = some (.tuple #[p, .int .i64 e]) /\ v = p) fun v w w' h hb => by obtain ⟨p, e, h1, h2⟩ := h; exact ⟨p, e, hb.2.2.2.2.1 _ h1, h2⟩, .s (fun v w => ∃ (p : Value) (e : Int), w.2.d = some (.tuple #[p, .int .i64 e]) /\ v = .int .i64 e) fun v w w' h hb => by obtain ⟨p, e, h1, h2⟩ := h; exact ⟨p, e, hb.2.2.2.2.1 _ h1, h2⟩, .s (fun v w => ∃ (p : Value) (e : Int), w.2.d = some (.tuple #[p, .int .i64 e]) /\ v = p) fun v w w' h hb => by obtain ⟨p, e, h1, h2⟩ := h; exact ⟨p, e, hb.2.2.2.2.1 _ h1, h2⟩, .s (fun v w => ∃ (p : Value) (e : Int), w.2.d = some (.tuple #[p, .int .i64 e]) /\ v = .int .i64 e) fun v w w' h hb => by obtain ⟨p, e, h1, h2⟩ := h; exact ⟨p, e, hb.2.2.2.2.1 _ h1, h2⟩] ?_ ⟨uM, uN, uF, ?_, uM, ?_, uM, uM, ?_, ?_, ?_, ?_, ?_, ?_, uA, uA, trivial⟩ ?_
  ·first | assumption | (intro i; (try dsimp only); split <;> first | trivial | assumption | (left; assumption))
  ·refine uG fun b__ w hW hN hE K hK => ?_
   have e30 := hE 30
   exact At rfl e30 (by kernel_rfl) ((k2 _ _ ((hW.1 hJ0).st hN.2).ro).1.cell 0 rfl) (hK (.int .i64 (n : Nat)) (w.1, { w.2 with e := true }) ⟨rfl, rfl⟩ ⟨⟨fun hj => hj, (fun _ h => h), (fun _ h => h), (fun _ h => h), (fun _ h => h), (fun _ => rfl)⟩, fun j hj hn => by split <;> first | exact absurd rfl hj | exact hn | trivial⟩)
  ·refine uG fun b__ w hW hN hE K hK => ?_
   have e32 := hE 32
   exact Cc rfl (by kernel_rfl) (by simp only [List.map_cons, List.map_nil, e32]) (J8 (k2 _ _ ((hW.1 hJ0).st hN.2.2).ro).ord (by omega)) fun e w' ⟨v, he, hs⟩ => ⟨v, he, hK v (w', { w.2 with a := some v }) rfl ⟨⟨fun hj => hj.mkA hN hs, (fun g h => by rw [hN.1] at h; cases h), (fun _ h => h), (fun _ h => h), (fun _ h => h), id⟩, fun j hj hn => by split <;> first | exact absurd rfl hj | exact hn | trivial⟩⟩
  ·refine uG fun b__ w hW hN hE K hK => ?_
   have e34 := hE 34
   have e35 := hE 35
   exact CJ rfl (ps := [(0, .int .i64 ((a : Nat) : Int)), (1, .int .i64 ((b : Nat) : Int))]) (cells := #[.int .i64 ((a : Nat) : Int), .int .i64 ((b : Nat) : Int)]) (by simp [e34, e35]) (by kernel_rfl) (hK _ _ rfl ⟨hRr _, fun _ _ h => h⟩)
  ·refine uG fun b__ w hW hN hE K hK => ?_
   have e36 := hE 36
   exact Bj rfl Tryz.underlying32 (ps := [(0, .agg #[.int .i64 ((a : Nat) : Int), .int .i64 ((b : Nat) : Int)])]) (cells := #[.int .i64 ((a : Nat) : Int), .int .i64 ((b : Nat) : Int)]) (by simp [e36]) (by kernel_rfl) fun w' hbx hbel => hK _ (w', { w.2 with b := some (.slice (some ⟨w.1.heap.size, 0, none⟩) 1 1) }) rfl ⟨⟨fun hj => hj.mkB hN hbel hbx, (fun _ h => h), (fun g h => by rw [hN.1] at h; cases h), (fun _ h => h), (fun _ h => h), id⟩, fun j hj hn => by split <;> first | exact absurd rfl hj | exact hn | trivial⟩
  ·refine uG fun b__ w hW hN hE K hK => ?_
   have e33 := hE 33
   have e37 := hE 37
   obtain ⟨o1, o2, o3⟩ := (hW.1 hJ0).own hN e33 e37
   exact Du (n := L.length) (m := 1) rfl Cp rfl o1 rfl (Sl.of_own o2) (BM _) (by omega) (by omega) o3 fun v' w' a1 a2 a3 => hK v' (w', { w.2 with c := some v' }) rfl ⟨⟨fun hj => hj.mkC hN e33 e37 a1 a2 a3, (fun _ h => h), (fun _ h => h), (fun g h => by rw [hN.1] at h; cases h), (fun _ h => h), id⟩, fun j hj hn => by split <;> first | exact absurd rfl hj | exact hn | exact absurd (hn.1.symm.trans e33) nofun | exact absurd (hn.1.symm.trans e37) nofun | trivial⟩
  ·refine uG fun b__ w hW hN hE K hK => ?_
   have e31 := hE 31
   have e38 := hE 38
   refine Cc rfl (by kernel_rfl) (by simp only [List.map_cons, List.map_nil, e31.2]) (onew_own n (L ++ [(a, b)]) _ hn hLx.out (by simp; omega) ((hW.1 hJ0).last hN e38) (fun D w h => kt D w (k1 D w h))) fun e w' h => ?_
   obtain ⟨v, he, hP⟩ := h
   exact ⟨v, he, hK v (w', { w.2 with d := some v }) ⟨rfl, hP.shape⟩ ⟨⟨fun _ => hP, (fun _ h => h), (fun _ h => h), (fun _ h => h), (fun g h => by rw [hN] at h; cases h), id⟩, fun j hj hn => by split <;> first | exact absurd rfl hj | exact hn | exact absurd (hn.1.symm.trans e31.1) nofun | exact absurd (hn.2.1.symm.trans e38) nofun | exact absurd (hn.1.symm.trans e38) nofun | trivial⟩⟩
  ·refine uG fun b__ w hW hN hE K hK => ?_
   have e39 := hE 39
   obtain ⟨hd, p, e, hv⟩ := e39
   rw [hv] at hd
   exact CA rfl hv rfl (hK _ _ ⟨p, e, hd, rfl⟩ ⟨hRr _, fun _ _ h => h⟩)
  ·refine uG fun b__ w hW hN hE K hK => ?_
   have e39 := hE 39
   obtain ⟨hd, p, e, hv⟩ := e39
   rw [hv] at hd
   exact CA rfl hv rfl (hK _ _ ⟨p, e, hd, rfl⟩ ⟨hRr _, fun _ _ h => h⟩)
  ·intro vs wz hW hT
   obtain ⟨e28, e29, e30, e31, e32, e33, e34, e35, e36, e37, e38, e39, e40, e41, e6, e7, -⟩ := hT
   have bx : (fun _ : Nat => True) 0 := trivial
   simp only [AE, Act.put, zz, ze]
   obtain ⟨r1, z1, hd1, e6⟩ := e6
   obtain ⟨r2, z2, hd2, e7⟩ := e7
   rw [hd1] at hd2
   obtain ⟨rfl, rfl⟩ : r1 = r2 /\ z1 = z2 := by simpa using hd2
   have hJ := hW.1 hJ0
   unfold WJ at hJ
   rw [hd1] at hJ
   have hP := hJ.mono KS k1
   rw [e6, e7]
   generalize wz.1 = wf at *
   clear hJ hJ0 hRr hRt hW hd1 hd2 e6 e7
   go_wp2_with fail
   go_ret2
   exact ⟨_, rfl, hP⟩
end
section
open Go.RowKit
structure TInvS (ops : Array Oper) (T : Nat -> Value -> World -> Prop) (sk : List Nat) (a0 : Act) (W : World) (listed : Array Bool) (a : Act) (w : World) : Prop where
 bel : Below W.heap.size W w
 defers : a.defers = a0.defers
 size : a.tmps.size = a0.tmps.size
 old : ∀ t, (∀ (i : Nat) (o : Oper), sk.contains i = false -> ops[i]? = some o -> o.dst ≠ some t) -> a.tmps.getD t undef = a0.tmps.getD t undef
 typ : ∀ (i : Nat) (o : Oper) (d : Tmp), ops[i]? = some o -> listed.getD i false = true -> o.dst = some d -> T i (a.tmps.getD d undef) w
def TRuleS (P : Program) (ops : Array Oper) (T : Nat -> Value -> World -> Prop) (sk : List Nat) (a0 : Act) (W : World) (Q : Exit -> Act -> World -> Prop) (i : Nat) (o : Oper) : Prop :=
 ∀ a w, Below W.heap.size W w -> (∀ t, (∀ (i : Nat) (o : Oper), sk.contains i = false -> ops[i]? = some o -> o.dst ≠ some t) -> a.tmps.getD t undef = a0.tmps.getD t undef) ->
  (∀ e ∈ o.after, Region.binds .any e = true -> ∀ (oj : Oper) (d : Tmp), ops[e.on]? = some oj -> oj.dst = some d -> T e.on (a.tmps.getD d undef) w) ->
  (Region.wanted o (yielded ops a.tmps) = true -> ∀ K : Act -> World -> Prop, (∀ v w', T i v w' -> Below w.heap.size w w' -> K (a.put o.dst v) w') -> o.wp P a w K Q) /\
  (Region.wanted o (yielded ops a.tmps) = false -> T i undef w)
def Jc (ops : Array Oper) (sk : List Nat) (t : Tmp) : Bool := (List.range ops.size).all fun i => sk.contains i || match ops[i]? with | some o => o.dst != some t | none => true
theorem Ic {ops : Array Oper} {sk : List Nat} {t : Tmp} (h : Jc ops sk t = true) (i : Nat) (o : Oper) (hs : sk.contains i = false) (ho : ops[i]? = some o) : o.dst ≠ some t := by
 have h1 := (List.all_eq_true.1 h) i (by simpa using (Array.getElem?_eq_some_iff.1 ho).1)
 simpa only [hs, ho, Bool.false_or, bne_iff_ne] using h1
theorem noDstS_of {ops : Array Oper} {sk : List Nat} {t : Tmp} (h : DM ops t = true) : Jc ops sk t = true := by
 rw [Jc, List.all_eq_true]
 intro i hi
 rw [Bool.or_eq_true]; right
 cases ho : ops[i]? with
 | none => rfl
 | some o => simpa using C8 h i o ho
section
variable {P : Program} {ops : Array Oper} {T : Nat -> Value -> World -> Prop} {a0 : Act} {W : World} {Q : Exit -> Act -> World -> Prop}
theorem Gh {t : Nat} {r : List Nat} {o1 : Oper} (h1 : ops[t]? = some o1) (hc1 : I5 ops (t :: r) o1 = true) (hch : CR ops t r = true) (htr : r.contains t = false)
  (hmono : ∀ i v w w', T i v w -> Below w.heap.size w w' -> T i v w') (hk : tOk ops a0.tmps.size = true) (hr : ∀ i o, (t :: r).contains i = false -> ops[i]? = some o -> TRuleS P ops T (t :: r) a0 W Q i o)
  (hpost : ∀ (b : Act) (w : World), Below W.heap.size W w -> b.defers = a0.defers -> b.tmps.size = a0.tmps.size -> (∀ s, (∀ (i : Nat) (o : Oper), (t :: r).contains i = false -> ops[i]? = some o -> o.dst ≠ some s) -> b.tmps.getD s undef = a0.tmps.getD s undef) ->
   (∀ (i : Nat) (o : Oper) (d : Tmp), (t :: r).contains i = false -> ops[i]? = some o -> o.dst = some d -> T i (b.tmps.getD d undef) w) -> Ca P ops Q (t :: r) b w) :
  ∀ (fuel : Nat) (listed : Array Bool) (b : Act) (w : World), listed.size = ops.size -> (∀ i ∈ t :: r, listed.getD i true = false) -> BN ops listed <= fuel -> EM ops listed -> TInvS ops T (t :: r) a0 W listed b w -> wpAny P .any ops Q fuel listed b w := by
 simp only [I5, Bool.and_eq_true] at hc1
 obtain ⟨hguard1, hcov1⟩ := hc1
 have htlt := (Array.getElem?_eq_some_iff.1 h1).1
 intro fuel
 induction fuel with
 | zero =>
  intro listed b w hsz hin hu hcl hI
  exfalso
  have := AY (ops := ops) (i := t) htlt (hin t List.mem_cons_self)
  omega
 | succ fuel ih =>
  intro listed b w hsz hin hu hcl hI
  refine ⟨fun h => ?_, fun i hi => ?_⟩
  ·exfalso
   have := Dd hk h t htlt
   rw [hin t List.mem_cons_self] at this
   cases this
  rw [mem_ready] at hi
  obtain ⟨h0, o, ho, haf⟩ := hi
  have hlt := (Array.getElem?_eq_some_iff.1 ho).1
  by_cases hir : i ∈ r
  ·exfalso
   obtain ⟨p, hp, o', ho', _, e, he, hb, hep⟩ := CF r t hch i hir
   obtain rfl : o = o' := by rw [ho] at ho'; exact Option.some.inj ho'
   have := GZ (haf e he hb)
   rw [hep, hin p (by rcases hp with rfl | hp; exact List.mem_cons_self; exact List.mem_cons_of_mem _ hp)] at this
   cases this
  by_cases hit : i = t
  ·subst hit
   obtain rfl : o = o1 := by rw [h1] at ho; exact (Option.some.inj ho).symm
   have hall : ∀ j, j < ops.size -> (i :: r).contains j = false -> listed.getD j false = true := by
    intro j hj hne
    have h3 := (List.all_eq_true.1 hcov1) j (by simpa using hj)
    simp only [Bool.or_eq_true, hne, Bool.false_eq_true, false_or] at h3
    exact Dn hcl _ o j h3 haf
   have hw : Region.wanted o (yielded ops b.tmps) = true := CX (by cases hg : o.guard with | none => rfl | some x => simp [hg] at hguard1)
   unfold wpOp
   simp only [ho, hw, if_true]
   refine .inl (Oper.wp_mono (fun b1 w1 hq => ?_) (hpost b w hI.bel hI.defers hI.size hI.old (fun j oj d hj hoj hd => hI.typ j oj d hoj (hall j (Array.getElem?_eq_some_iff.1 hoj).1 hj) hd) o ho))
   have hrlen : r.length <= fuel := by
    -- the tail is not listed
    have key : ∀ (l : List Nat) (ls : Array Bool), l.Nodup -> (∀ x ∈ l, x < ops.size /\ ls.getD x true = false) -> l.length <= BN ops ls := by
     intro l
     induction l with
     | nil => intro _ _ _; exact Nat.zero_le _
     | cons x l ih2 =>
      intro ls hnd hx
      have q1 := AY (ops := ops) (hx x List.mem_cons_self).1 (hx x List.mem_cons_self).2
      have q2 := ih2 (ls.setIfInBounds x true) (List.nodup_cons.1 hnd).2 (fun y hy => ⟨(hx y (List.mem_cons_of_mem _ hy)).1, by rw [getD_set_ne true (by rintro rfl; exact (List.nodup_cons.1 hnd).1 hy)]; exact (hx y (List.mem_cons_of_mem _ hy)).2⟩)
      simp; omega
    have hnd : ∀ (r : List Nat) (t : Nat), CR ops t r = true -> r.Nodup := by
     intro r
     induction r with
     | nil => intro _ _; exact List.nodup_nil
     | cons u r ih2 =>
      intro t h
      simp only [CR, Bool.and_eq_true] at h
      exact List.nodup_cons.2 ⟨by simpa using h.1.2, ih2 u h.2⟩
    have q1 := AY (ops := ops) hlt h0
    have q2 := key r (listed.setIfInBounds i true) (hnd r i hch) (fun x hx => ⟨by
     obtain ⟨_, _, o', ho', _⟩ := CF r i hch x hx
     exact (Array.getElem?_eq_some_iff.1 ho').1, by
     have : x ≠ i := fun e => hir (e ▸ hx)
     rw [getD_set_ne true (Ne.symm this)]; exact hin x (List.mem_cons_of_mem _ hx)⟩)
    omega
   refine ID hk r i fuel _ b1 w1 (by simpa using hsz) hch (fun j hj hn => G4 ?_) (fun j hj => ?_) hrlen hq
   ·by_cases e : j = i
    ·exact .inl e
    ·exact .inr (GZ (hall j hj (by simp [e, hn])))
   ·have : j ≠ i := fun e => hir (e ▸ hj)
    rw [getD_set_ne true (Ne.symm this)]
    exact hin j (List.mem_cons_of_mem _ hj)
  ·have hnt : (t :: r).contains i = false := by simp [hit, hir]
   have hdst := Ez hk ho
   have hrule := hr i o hnt ho b w hI.bel hI.old (fun e he hbd oj d hoj hd => hI.typ e.on oj d hoj (haf e he hbd) hd)
   have hcl' : EM ops (listed.setIfInBounds i true) := by
    intro j oj hj hlj e he hb
    by_cases e2 : j = i
    ·subst e2
     obtain rfl : oj = o := by rw [ho] at hj; exact (Option.some.inj hj).symm
     exact getD_set_true (haf e he hb)
    ·rw [getD_set_ne false (Ne.symm e2)] at hlj
     exact getD_set_true (hcl j oj hj hlj e he hb)
   have next : ∀ v w', T i v w' -> Below w.heap.size w w' -> wpAny P .any ops Q fuel (listed.setIfInBounds i true) (b.put o.dst v) w' := by
    intro v w' hT hb
    refine ih _ _ _ (by simpa using hsz) (fun j hj => by
     have : j ≠ i := fun e => by subst e; simp at hj; rcases hj with e | e; exact hit e; exact hir e
     rw [getD_set_ne true (Ne.symm this)]; exact hin j hj) (by have := AY (ops := ops) hlt h0; omega) hcl' ⟨hI.bel.trans (hb.mono hI.bel.size), ?_, ?_, ?_, ?_⟩
    ·rw [<- hI.defers]; cases o.dst <;> rfl
    ·rw [<- hI.size]; cases o.dst <;> simp [Act.put]
    ·intro t ht
     rw [<- hI.old t ht]
     have h2 := ht i o hnt ho
     cases hd : o.dst with
     | none => rfl
     | some d =>
      have : d ≠ t := fun e => h2 (by rw [hd, e])
      simp [Act.put, Array.getElem?_setIfInBounds_ne this]
    ·intro j oj d hj hlj hdj
     by_cases e : j = i
     ·subst e
      obtain rfl : oj = o := by rw [ho] at hj; exact (Option.some.inj hj).symm
      have hd1 := hdst.1 d hdj
      rw [hdj]
      have hlt2 : d < b.tmps.size := by rw [hI.size]; exact hd1
      simpa [Act.put, hlt2] using hT
     ·have hlj' : listed.getD j false = true := by rwa [getD_set_ne false (Ne.symm e)] at hlj
      have h3 := hmono j _ w w' (hI.typ j oj d hj hlj' hdj) hb
      have h4 : (b.put o.dst v).tmps.getD d undef = b.tmps.getD d undef := by
       cases hd : o.dst with
       | none => rfl
       | some d' =>
        have : d' ≠ d := fun e2 => hdst.2.2 j oj d' e hj hd (by rw [hdj, e2])
        simp [Act.put, Array.getElem?_setIfInBounds_ne this]
      rw [h4]; exact h3
   unfold wpOp
   simp only [ho]
   split
   ·rename_i hw
    exact .inl (hrule.1 hw _ next)
   ·rename_i hw
    exact next undef w (hrule.2 (by simpa using hw)) (Below.refl _ _)
def FH (P : Program) (ops : Array Oper) (T : Nat -> Value -> World -> Prop) (a0 : Act) (W : World) (Q : Exit -> Act -> World -> Prop) (skip : List Nat) : Nat -> List Oper -> Prop
 | _, [] => True
 | i, o :: r => (skip.contains i = true \/ TRuleS P ops T skip a0 W Q i o) /\ FH P ops T a0 W Q skip (i + 1) r
theorem FH.at {skip : List Nat} : ∀ (l : List Oper) (k : Nat), FH P ops T a0 W Q skip k l -> ∀ i o, l[i]? = some o -> skip.contains (k + i) = true \/ TRuleS P ops T skip a0 W Q (k + i) o
 | [], _, _, i, o, h => by simp at h
 | x :: r, k, hr, 0, o, h => by simp at h; subst h; exact hr.1
 | x :: r, k, hr, i + 1, o, h => by
  have := FH.at r (k + 1) hr.2 i o (by simpa using h)
  rwa [show k + 1 + i = k + (i + 1) by omega] at this
theorem Io {id : Nat} {a : Act} (T : Nat -> Value -> World -> Prop) (t : Nat) (r : List Nat) (hm : P.follows .mixedOrders = true)
  (hc1 : (match ops[t]? with | some o => I5 ops (t :: r) o | none => false) = true) (hch : CR ops t r = true) (htr : r.contains t = false)
  (hk : tOk ops a.tmps.size = true) (hmono : ∀ i v w w', T i v w -> Below w.heap.size w w' -> T i v w') (hr : FH P ops T a W.drew Q (t :: r) 0 ops.toList)
  (hpost : ∀ (b : Act) (w : World), Below W.heap.size W w -> b.defers = a.defers -> b.tmps.size = a.tmps.size -> (∀ s, Jc ops (t :: r) s = true -> b.tmps.getD s undef = a.tmps.getD s undef) ->
   (∀ (i : Nat) (o : Oper) (d : Tmp), (t :: r).contains i = false -> ops[i]? = some o -> o.dst = some d -> T i (b.tmps.getD d undef) w) -> Ca P ops Q (t :: r) b w) : (Code.region id ops true).wp P Q a W := by
 refine wp_region_any hm ?_
 cases h1 : ops[t]? with
 | none => simp [h1] at hc1
 | some o1 =>
  simp only [h1] at hc1
  refine Gh (T := T) (W := W.drew) (a0 := a) h1 hc1 hch htr hmono hk (fun i o a1 a2 => ?_) (fun b w h1 h2 h3 h4 h5 => hpost b w (CQ h1) h2 h3 (fun s hs => h4 s (Ic hs)) h5) _ _ _ _ (by simp) (fun i hi => ?_) ?_ ?_ ⟨Below.refl _ _, rfl, rfl, fun _ _ => rfl, fun i o d ho hl _ => ?_⟩
  ·have := FH.at ops.toList 0 hr i o (by simpa using a2)
   rw [Nat.zero_add] at this
   rcases this with h | h
   ·rw [a1] at h; cases h
   ·exact h
  ·have : i < ops.size := by
    rcases List.mem_cons.1 hi with rfl | hi
    ·exact (Array.getElem?_eq_some_iff.1 h1).1
    ·obtain ⟨_, _, o', ho', _⟩ := CF r t hch i hi
     exact (Array.getElem?_eq_some_iff.1 ho').1
   simp [this]
  ·unfold BN; exact Nat.le_trans (List.length_filter_le _ _) (by simp)
  ·intro i o ho hl e he hb
   exfalso
   have hlt := (Array.getElem?_eq_some_iff.1 ho).1
   simp [hlt] at hl
  ·exfalso
   have hlt := (Array.getElem?_eq_some_iff.1 ho).1
   simp [hlt] at hl
theorem DH {a : Act} {o : Oper} {sk : List Nat} {i : Nat}
  (h : ∀ (b : Act) (w : World), Below W.heap.size W w -> (∀ t, Jc ops sk t = true -> b.eval (.tmp t) = a.eval (.tmp t)) ->
   (∀ e ∈ o.after, Region.binds .any e = true -> ∀ (oj : Oper) (d : Tmp), ops[e.on]? = some oj -> oj.dst = some d -> T e.on (b.eval (.tmp d)) w) ->
   (Region.wanted o (yielded ops b.tmps) = true -> ∀ K : Act -> World -> Prop, (∀ v w', T i v w' -> Below w.heap.size w w' -> K (b.put o.dst v) w') -> o.wp P b w K Q) /\ (Region.wanted o (yielded ops b.tmps) = false -> T i undef w)) :
  TRuleS P ops T sk a W Q i o := fun b w h1 h2 h3 => h b w h1 (fun t ht => h2 t (Ic ht)) h3
end
end
section
open Go.RowKit
attribute [local go_sem ↓] Go.wp_at_zero Go.wp_at_succ
set_option maxRecDepth 20000
set_option exponentiation.threshold 5000
theorem Do (r : Int) (w : World) : Calls Tryz.prog 112 #[.int .i64 r] w (AM (fun x _ => x = .bool (decide (1 <= r /\ r <= 63))) w) := by
 by_cases h1 : 1 <= r
 ·by_cases h2 : r <= 63
  ·have HR := Lib.hid (show decide (1 <= r /\ r <= 63) = true by simp [h1, h2])
   generalize decide (1 <= r /\ r <= 63) = R at *
   go_enter Tryz.func112, Tryz.ntmps112
   go_wp2_with (first | ((with_reducible refine qB ?_); refine qc ?_ ?_ <;> intro h_ <;> go_prune))
   go_ret
   exact AM.mk (congrArg Value.bool HR.out.symm) (Below.refl _ _)
  ·have HR := Lib.hid (show decide (1 <= r /\ r <= 63) = false by simp [h2])
   generalize decide (1 <= r /\ r <= 63) = R at *
   go_enter Tryz.func112, Tryz.ntmps112
   go_wp2_with (first | ((with_reducible refine qB ?_); refine qc ?_ ?_ <;> intro h_ <;> go_prune))
   go_ret
   exact AM.mk (congrArg Value.bool HR.out.symm) (Below.refl _ _)
 ·have HR := Lib.hid (show decide (1 <= r /\ r <= 63) = false by simp [h1])
  generalize decide (1 <= r /\ r <= 63) = R at *
  go_enter Tryz.func112, Tryz.ntmps112
  go_wp2_with (first | ((with_reducible refine qB ?_); refine qc ?_ ?_ <;> intro h_ <;> go_prune))
  go_ret
  exact AM.mk (congrArg Value.bool HR.out.symm) (Below.refl _ _)
def FZ (q : Nat) (o : Value) (L : List (Nat × Nat)) (D : Nat -> Prop) (w : World) : Prop := BQ w D q #[o] /\ FY w D o 64 L
theorem CG {q : Nat} {o : Value} {L : List (Nat × Nat)} : AK (FZ q o L) := AU.and Cy
def IsH (w : World) (D : Nat -> Prop) (p : Value) (L : List (Nat × Nat)) : Prop := ∃ (q : Nat) (o : Value), p = .pointer (some ⟨q, 0, none⟩) /\ FZ q o L D w
theorem DI {p : Value} {L : List (Nat × Nat)} : AK fun D w => IsH w D p L := fun D D' w w' h a b c => by
 obtain ⟨q, o, h1, h2⟩ := h
 exact ⟨q, o, h1, CG D D' w w' h2 a b c⟩
structure Hf (L : List (Nat × Nat)) : Prop where
 asc : Asc L
 role : ∀ x ∈ L, (1 <= x.1 /\ x.1 < 64) /\ 1 <= x.2 /\ x.2 < 64
 acyc : DS L
theorem Hf.inr {L : List (Nat × Nat)} (h : Hf L) : ES 64 L := fun x hx => ⟨(h.role x hx).1.2, (h.role x hx).2.2⟩
theorem Hf.nil : Hf [] := ⟨.nil, by simp, fun a h => by obtain ⟨y, h, _⟩ := h.first; simp at h⟩
theorem hnew_any {w0 w : World} {F : List Aj} {K : (Nat -> Prop) -> World -> Prop} (hS : St w0 w F K) (kt : ∀ D w, K D w -> Bx w /\ D 0) :
  Calls Tryz.prog 49 #[] w fun e w' => ∃ p, e = .returned p /\ St w0 w' F fun D w => K D w /\ IsH w D p [] := by
 have KS := hS.stable
 have HN := Lib.hid (onew_any 64 [] (.slice none 0 0) (by omega) (by intro x hx; simp at hx) (by simp) hS (fun D w _ => ⟨rfl, none, 0, rfl, by simp, by simp, fun h => by simp at h⟩) kt)
 clear hS
 go_enter Tryz.func49, Tryz.ntmps49
 go_wp2_with (first
  | (go_at_call 88; refine HN.out.mono ?_; rintro e w_ (⟨h1, -, -⟩ | ⟨p, L, rfl, hA, hm, hc, hS⟩); · exact absurd Hf.nil.acyc h1
     obtain rfl : L = [] := by
       cases L with
       | nil => rfl
       | cons x r => exact absurd ((hm x).1 (by simp)) (by simp)
     clear hA hm hc
     obtain ⟨qo, _, _, _, _, _, _, rfl, -⟩ := hS.ro.2)
  | ((with_reducible refine qA 9 ?_); refine AA hS rfl _ _ rfl (.agg #[.pointer (some ⟨qo, 0, none⟩)]) _ rfl rfl ?_; clear hS; intro q w_ hS; (try simp only [Act.put, Act.eval, zz, Value.cells] at hS)))
 go_ret
 exact ⟨_, rfl, (hS.sealB 0 (by simp) rfl).mono (KS.and DI) fun D w h => ⟨h.1.1, q, _, rfl, h.2, h.1.2⟩⟩
theorem hlinks_any {w0 : World} {D : Nat -> Prop} {p : Value} {L : List (Nat × Nat)} (h : IsH w0 D p L) (hl : L.length <= 1000000) : Calls Tryz.prog 105 #[p] w0 fun e w' => ∃ v, e = .returned v /\ St w0 w' [.own v 151 2 L.length (Ah L)] fun _ _ => True := by
 obtain ⟨q, o, rfl, hb, ho⟩ := h
 have k0 := Lib.hid (hb.cell 0 (x := o) rfl)
 have HC := Lib.hid (J8 ho hl)
 clear hb ho
 go_enter Tryz.func105, Tryz.ntmps105
 go_wp2_with (first
  | ((with_reducible refine qB ?_); refine qc ?_ ?_ <;> intro h_ <;> go_prune)
  | ((with_reducible refine qK ?_); refine BigFrame.wpList_want rfl fun _ hK => At rfl rfl (by kernel_rfl) k0.out (hK _ _ ?_))
  | (go_at_call 133; refine HC.out.mono ?_; rintro e w_ ⟨v, rfl, hS⟩))
 go_ret
 exact ⟨v, rfl, hS⟩
def LinkP (w0 : World) (F : List Aj) (K : (Nat -> Prop) -> World -> Prop) (L : List (Nat × Nat)) (a b : Int) (r : Value) (z : Int) (w : World) : Prop :=
 (¬ ((1 <= a /\ a <= 63) /\ (1 <= b /\ b <= 63) /\ a ≠ b) /\ r = .pointer none /\ z = 1 /\ St w0 w F K) \/
 ∃ x y : Nat, a = (x : Int) /\ b = (y : Int) /\ (1 <= x /\ x < 64) /\ (1 <= y /\ y < 64) /\ x ≠ y /\
  (((x, y) ∈ L /\ r = .pointer none /\ z = 5 /\ St w0 w F K) \/ ((x, y) ∉ L /\ ¬ DS (L ++ [(x, y)]) /\ r = .pointer none /\ z = 16 /\ St w0 w F K) \/
   ((x, y) ∉ L /\ z = 0 /\ ∃ L' : List (Nat × Nat), Hf L' /\ (∀ u, u ∈ L' ↔ u ∈ L ++ [(x, y)]) /\ St w0 w F fun D w => K D w /\ IsH w D r L'))
theorem hlink_any {w0 w : World} {F : List Aj} {K : (Nat -> Prop) -> World -> Prop} (p : Value) (L : List (Nat × Nat)) (a b : Int) (hH : Hf L) (hl : L.length <= 900000) (hS : St w0 w F K)
  (ko : ∀ D w, K D w -> IsH w D p L) (kt : ∀ D w, K D w -> Bx w /\ D 0) :
  Calls Tryz.prog 94 #[p, .int .i64 a, .int .i64 b] w fun e w' => ∃ (r : Value) (z : Int), e = .returned (.tuple #[r, .int .i64 z]) /\ LinkP w0 F K L a b r z w' := by
 have KS := hS.stable
 obtain ⟨q, o, rfl, hX⟩ := ko _ _ hS.ro
 have hS := hS.add CG hX fun b h _ => h
 clear hX
 have HH := Lib.hid hH
 clear hH
 by_cases hra : 1 <= a /\ a <= 63
 ·have HRA := Lib.hid (decide_eq_true hra)
  by_cases hrb : 1 <= b /\ b <= 63
  ·have HRB := Lib.hid (decide_eq_true hrb)
   by_cases hab : a = b
   ·subst hab
    have HNO : Hid (¬ ((1 <= a /\ a <= 63) /\ (1 <= a /\ a <= 63) /\ a ≠ a)) := Lib.hid fun h => h.2.2 rfl
    clear hra hrb
    go_enter Tryz.func94, Tryz.ntmps94
    go_wp2_with (first
     | ((with_reducible refine qB ?_); refine qc ?_ ?_ <;> intro h_ <;> go_prune)
     | (go_at_call 112; refine (Do _ _).mono ?_; (first | rw [HRA.out] | rw [HRB.out]); rintro r_ w_ ⟨_, rfl, rfl, hb_⟩; replace hS := hS.ext hb_; clear hb_))
    go_ret2
    exact ⟨_, _, rfl, .inl ⟨HNO.out, rfl, rfl, hS.mono KS fun _ _ h => h.1⟩⟩
   ·obtain ⟨x, rfl⟩ : ∃ x : Nat, a = (x : Int) := ⟨a.toNat, by omega⟩
    obtain ⟨y, rfl⟩ : ∃ y : Nat, b = (y : Int) := ⟨b.toNat, by omega⟩
    have hx1 : Hid (1 <= x /\ x < 64) := Lib.hid (by omega)
    have hy1 : Hid (1 <= y /\ y < 64) := Lib.hid (by omega)
    have hxy : Hid (x ≠ y) := Lib.hid (by omega)
    clear hra hrb
    have HW := Lib.hid (fun (w : World) (h : St w0 w F fun D w => K D w /\ FZ q o L D w) => owith_any o 64 L x y (by omega) HH.out.inr hl hx1.out.2 hy1.out.2 h (fun D w h => h.2.2) (fun D w h => kt D w h.1))
    go_enter Tryz.func94, Tryz.ntmps94
    go_wp2_with (first
     | ((with_reducible refine qB ?_); refine qc ?_ ?_ <;> intro h_ <;> go_prune)
     | (go_at_call 112; refine (Do _ _).mono ?_; (first | rw [HRA.out] | rw [HRB.out]); rintro r_ w_ ⟨_, rfl, rfl, hb_⟩; replace hS := hS.ext hb_; clear hb_)
     | ((with_reducible refine qK ?_); refine D7 hS rfl _ _ rfl _ rfl _ (fun D w h => h.2.1.cell 0 rfl) (by kernel_rfl) ?_)
     | (go_at_call 130; refine (HW.out _ hS).mono ?_; rintro e w_ (⟨hm, rfl, hS⟩ | ⟨hm, v, rfl, (⟨hc, rfl, hS⟩ | ⟨pp, L', rfl, hA, hmm, hc, hS⟩)⟩) <;> (try obtain ⟨qo, _, _, _, _, _, _, rfl, -⟩ := hS.ro.2))
     | ((with_reducible refine qA 42 ?_); refine AA hS rfl _ _ rfl (.agg #[.pointer (some ⟨qo, 0, none⟩)]) _ rfl rfl ?_; clear hS; intro g w_ hS; (try simp only [Act.put, Act.eval, zz, Value.cells] at hS)))
    ·go_ret2
     exact ⟨_, _, rfl, .inr ⟨x, y, rfl, rfl, hx1.out, hy1.out, hxy.out, .inl ⟨hm, rfl, rfl, hS.mono KS fun _ _ h => h.1⟩⟩⟩
    ·go_ret2
     exact ⟨_, _, rfl, .inr ⟨x, y, rfl, rfl, hx1.out, hy1.out, hxy.out, .inr (.inl ⟨hm, hc, rfl, rfl, hS.mono KS fun _ _ h => h.1⟩)⟩⟩
    ·go_ret2
     refine ⟨_, _, rfl, .inr ⟨x, y, rfl, rfl, hx1.out, hy1.out, hxy.out, .inr (.inr ⟨hm, rfl, L', ⟨hA, fun u hu => ?_, hc⟩, hmm, (hS.sealB 0 (by simp) rfl).mono (KS.and DI) fun D w h => ⟨h.1.1.1, g, _, rfl, h.2, h.1.2⟩⟩)⟩⟩
     rcases List.mem_append.1 ((hmm u).1 hu) with h | h
     ·exact HH.out.role u h
     ·rw [List.mem_singleton] at h; subst h; exact ⟨hx1.out, hy1.out⟩
  ·have HRB := Lib.hid (decide_eq_false hrb)
   have HNO : Hid (¬ ((1 <= a /\ a <= 63) /\ (1 <= b /\ b <= 63) /\ a ≠ b)) := Lib.hid fun h => hrb h.2.1
   clear hra hrb
   go_enter Tryz.func94, Tryz.ntmps94
   go_wp2_with (first
    | ((with_reducible refine qB ?_); refine qc ?_ ?_ <;> intro h_ <;> go_prune)
    | (go_at_call 112; refine (Do _ _).mono ?_; (first | rw [HRA.out] | rw [HRB.out]); rintro r_ w_ ⟨_, rfl, rfl, hb_⟩; replace hS := hS.ext hb_; clear hb_))
   go_ret2
   exact ⟨_, _, rfl, .inl ⟨HNO.out, rfl, rfl, hS.mono KS fun _ _ h => h.1⟩⟩
 ·have HRA := Lib.hid (decide_eq_false hra)
  have HRB := HRA
  have HNO : Hid (¬ ((1 <= a /\ a <= 63) /\ (1 <= b /\ b <= 63) /\ a ≠ b)) := Lib.hid fun h => hra h.1
  clear hra
  go_enter Tryz.func94, Tryz.ntmps94
  go_wp2_with (first
   | ((with_reducible refine qB ?_); refine qc ?_ ?_ <;> intro h_ <;> go_prune)
   | (go_at_call 112; refine (Do _ _).mono ?_; (first | rw [HRA.out] | rw [HRB.out]); rintro r_ w_ ⟨_, rfl, rfl, hb_⟩; replace hS := hS.ext hb_; clear hb_))
  go_ret2
  exact ⟨_, _, rfl, .inl ⟨HNO.out, rfl, rfl, hS.mono KS fun _ _ h => h.1⟩⟩
end
section
open Go.RowKit
attribute [local go_sem ↓] Go.wp_at_zero Go.wp_at_succ
set_option maxRecDepth 20000
set_option exponentiation.threshold 5000
noncomputable def senM (L : List (Nat × Nat)) (r : Nat) : Nat := aboveM 64 L r ||| 2 ^ r
theorem tb_sen {L : List (Nat × Nat)} (hL : ES 64 L) {r j : Nat} : (senM L r).testBit j = true ↔ j = r \/ TC L j r := by
 unfold senM
 rw [DT, EZ hL, E9, Or.comm]
theorem withN_nat {N r : Nat} (h : r < 64) : Bt N (r : Int) = N ||| 2 ^ r := by
 unfold Bt
 rw [if_pos (by omega), Int.toNat_natCast]
theorem free1 {w0 w : World} {g z : Nat} {t : TypeId} {cs : Array Value} {K : (Nat -> Prop) -> World -> Prop} (h : St w0 w [.box g t cs] K) (hz : z < w0.heap.size) : CW [.box g t cs] z := fun f hf e => by
 rw [List.mem_singleton] at hf
 subst hf
 have := Aj.ge (h.holds _ (List.mem_singleton.2 rfl)) e
 omega
theorem AP {r : (Nat -> Prop) -> World -> Prop} (hr : AK r) (E : Nat -> Prop) : AK fun D w => r (fun z => D z /\ E z) w := fun D D' w w' h a b c =>
 hr _ _ w w' h a (fun p x hp => b p x hp.1) fun z hz h1 h2 => ⟨c z hz.1 h1 h2, hz.2⟩
theorem hjun_any {w0 : World} {D : Nat -> Prop} {p : Value} {L : List (Nat × Nat)} (h : IsH w0 D p L) (hH : Hf L) (r : Int) : Calls Tryz.prog 72 #[p, .int .i64 r] w0 (AM (fun x w => A6 w (fun z => D z \/ w0.heap.size <= z) x (if 1 <= r /\ r <= 63 then junM L r.toNat else 0)) w0) := by
 obtain ⟨q, o, rfl, hb, ho⟩ := h
 have HO := Lib.hid (Cy D (fun z => D z /\ z < w0.heap.size) w0 w0 ho (Nat.le_refl _) (fun _ _ _ _ h => h) fun b h1 h2 _ => ⟨h1, h2⟩)
 obtain ⟨K, k0, hS⟩ : ∃ K : (Nat -> Prop) -> World -> Prop, (∀ D w, K D w -> w.cell? ⟨q, 0, none⟩ = some o) /\ St w0 w0 [] K := ⟨_, fun _ _ h => BQ.cell h 0 rfl, St.start AU hb⟩
 have HH := Lib.hid hH
 clear hb hH ho
 by_cases hr : 1 <= r /\ r <= 63
 ·obtain ⟨k, rfl⟩ : ∃ k : Nat, r = (k : Int) := ⟨r.toNat, by omega⟩
  have HR := Lib.hid (decide_eq_true hr)
  have HM := Lib.hid (fun (N : Nat) (h : ∀ i : Nat, N.testBit i = true ↔ ∃ b : Nat, (k : Int) = (b : Int) /\ TC L b i) => show Bt N (k : Int) = junM L k from by
   rw [withN_nat (by omega)]
   refine Bf fun i => ?_
   rw [DT, E9, h, Hp HH.out.inr (by omega)]
   constructor
   ·rintro (⟨b, e, h⟩ | h)
    ·obtain rfl : k = b := by omega
     exact .inr h
    ·exact .inl h
   ·rintro (h | h)
    ·exact .inr h
    ·exact .inl ⟨k, rfl, h⟩)
  rw [if_pos hr, Int.toNat_natCast]
  clear hr
  go_enter Tryz.func72, Tryz.ntmps72
  go_wp2_with (first
   | ((with_reducible refine qB ?_); refine qc ?_ ?_ <;> intro h_ <;> go_prune)
   | ((with_reducible refine qA 4 ?_); refine Bk hS rfl _ rfl (by kernel_rfl) ?_; clear hS; intro g w_ hS; (try simp only [Act.put, Act.eval, zz, Value.cells] at hS))
   | (go_at_call 112; refine (Do _ _).mono ?_; rw [HR.out]; rintro r_ w_ ⟨_, rfl, rfl, hb_⟩; replace hS := hS.ext hb_; clear hb_)
   | ((with_reducible refine qA 16 ?_); refine D7 hS rfl _ _ rfl _ rfl _ k0 (by kernel_rfl) ?_)
   | (go_at_call 113; refine (obelow_any (Cy _ _ _ _ HO.out hS.size (fun _ _ _ hp hc => (hS.below.cell hp).trans hc) fun _ h _ _ => h) HH.out.inr _).mono ?_; rintro r_ w_ ⟨_, rfl, ⟨N, hN, hs⟩, hb_⟩; replace hs := Lib.hid hs; replace hS := hS.ext hb_; clear hb_)
   | (go_at_call 14; refine (D6 _ N _ _ _ hN).mono ?_; rintro r_ w1 ⟨_, rfl, hM, hb_⟩; rw [HM.out N hs.out] at hM; obtain ⟨A3, c3, l3, rfl, -⟩ := hM.parts; replace hS := hS.ret2 hb_ (AP A5 fun z => D z \/ w0.heap.size <= z) (hM.imp fun z hz _ => ⟨hz.imp (fun hz => free1 hS hz.2) id, hz.elim (fun hz => .inl hz.1) fun hz => .inr (Nat.le_trans hS.size hz)⟩); clear hb_)
   | ((with_reducible refine qM ?_); (first | refine qS hS ?_ | refine qT hS ?_); clear hS; intro w_ hS; (try simp only [Act.put, Act.eval, zz, Value.cells] at hS)))
  refine Bl Tryz.results72 rfl (hS.box 0 rfl) Tryz.underlying27 rfl (by kernel_rfl) rfl ?_
  exact AM.mk (hS.ro.2.imp fun z hz _ => hz.2) hS.below
 ·have HR := Lib.hid (decide_eq_false hr)
  rw [if_neg hr]
  clear hr
  go_enter Tryz.func72, Tryz.ntmps72
  go_wp2_with (first
   | ((with_reducible refine qB ?_); refine qc ?_ ?_ <;> intro h_ <;> go_prune)
   | ((with_reducible refine qA 4 ?_); refine Bk hS rfl _ rfl (by kernel_rfl) ?_; clear hS; intro g w_ hS; (try simp only [Act.put, Act.eval, zz, Value.cells] at hS))
   | (go_at_call 112; refine (Do _ _).mono ?_; rw [HR.out]; rintro r_ w_ ⟨_, rfl, rfl, hb_⟩; replace hS := hS.ext hb_; clear hb_)
   | ((with_reducible show wpList _ _ _ (⟨_, .build _ _, _, _, _, _⟩ :: _) _ _); refine Aq rfl _ _ rfl #[.slice none 0 0] (by kernel_rfl) ?_)
   | ((with_reducible refine qM ?_); (first | refine qS hS ?_ | refine qT hS ?_); clear hS; intro w_ hS; (try simp only [Act.put, Act.eval, zz, Value.cells] at hS)))
  refine Bl Tryz.results72 rfl (hS.box 0 rfl) Tryz.underlying27 rfl (by kernel_rfl) rfl ?_
  exact AM.mk A6.empty hS.below
theorem hsen_any {w0 : World} {D : Nat -> Prop} {p : Value} {L : List (Nat × Nat)} (h : IsH w0 D p L) (hH : Hf L) (r : Int) : Calls Tryz.prog 117 #[p, .int .i64 r] w0 (AM (fun x w => A6 w (fun z => D z \/ w0.heap.size <= z) x (if 1 <= r /\ r <= 63 then senM L r.toNat else 0)) w0) := by
 obtain ⟨q, o, rfl, hb, ho⟩ := h
 have HO := Lib.hid (Cy D (fun z => D z /\ z < w0.heap.size) w0 w0 ho (Nat.le_refl _) (fun _ _ _ _ h => h) fun b h1 h2 _ => ⟨h1, h2⟩)
 obtain ⟨K, k0, hS⟩ : ∃ K : (Nat -> Prop) -> World -> Prop, (∀ D w, K D w -> w.cell? ⟨q, 0, none⟩ = some o) /\ St w0 w0 [] K := ⟨_, fun _ _ h => BQ.cell h 0 rfl, St.start AU hb⟩
 have HH := Lib.hid hH
 clear hb hH ho
 by_cases hr : 1 <= r /\ r <= 63
 ·obtain ⟨k, rfl⟩ : ∃ k : Nat, r = (k : Int) := ⟨r.toNat, by omega⟩
  have HR := Lib.hid (decide_eq_true hr)
  have HM := Lib.hid (fun (N : Nat) (h : ∀ i : Nat, N.testBit i = true ↔ ∃ b : Nat, (k : Int) = (b : Int) /\ TC L i b) => show Bt N (k : Int) = senM L k from by
   rw [withN_nat (by omega)]
   refine Bf fun i => ?_
   rw [DT, E9, h, tb_sen HH.out.inr]
   constructor
   ·rintro (⟨b, e, h⟩ | h)
    ·obtain rfl : k = b := by omega
     exact .inr h
    ·exact .inl h
   ·rintro (h | h)
    ·exact .inr h
    ·exact .inl ⟨k, rfl, h⟩)
  rw [if_pos hr, Int.toNat_natCast]
  clear hr
  go_enter Tryz.func117, Tryz.ntmps117
  go_wp2_with (first
   | ((with_reducible refine qB ?_); refine qc ?_ ?_ <;> intro h_ <;> go_prune)
   | ((with_reducible refine qA 4 ?_); refine Bk hS rfl _ rfl (by kernel_rfl) ?_; clear hS; intro g w_ hS; (try simp only [Act.put, Act.eval, zz, Value.cells] at hS))
   | (go_at_call 112; refine (Do _ _).mono ?_; rw [HR.out]; rintro r_ w_ ⟨_, rfl, rfl, hb_⟩; replace hS := hS.ext hb_; clear hb_)
   | ((with_reducible refine qA 16 ?_); refine D7 hS rfl _ _ rfl _ rfl _ k0 (by kernel_rfl) ?_)
   | (go_at_call 138; refine (oabove_any (Cy _ _ _ _ HO.out hS.size (fun _ _ _ hp hc => (hS.below.cell hp).trans hc) fun _ h _ _ => h) HH.out.inr _).mono ?_; rintro r_ w_ ⟨_, rfl, ⟨N, hN, hs⟩, hb_⟩; replace hs := Lib.hid hs; replace hS := hS.ext hb_; clear hb_)
   | (go_at_call 14; refine (D6 _ N _ _ _ hN).mono ?_; rintro r_ w1 ⟨_, rfl, hM, hb_⟩; rw [HM.out N hs.out] at hM; obtain ⟨A3, c3, l3, rfl, -⟩ := hM.parts; replace hS := hS.ret2 hb_ (AP A5 fun z => D z \/ w0.heap.size <= z) (hM.imp fun z hz _ => ⟨hz.imp (fun hz => free1 hS hz.2) id, hz.elim (fun hz => .inl hz.1) fun hz => .inr (Nat.le_trans hS.size hz)⟩); clear hb_)
   | ((with_reducible refine qM ?_); (first | refine qS hS ?_ | refine qT hS ?_); clear hS; intro w_ hS; (try simp only [Act.put, Act.eval, zz, Value.cells] at hS)))
  refine Bl Tryz.results117 rfl (hS.box 0 rfl) Tryz.underlying27 rfl (by kernel_rfl) rfl ?_
  exact AM.mk (hS.ro.2.imp fun z hz _ => hz.2) hS.below
 ·have HR := Lib.hid (decide_eq_false hr)
  rw [if_neg hr]
  clear hr
  go_enter Tryz.func117, Tryz.ntmps117
  go_wp2_with (first
   | ((with_reducible refine qB ?_); refine qc ?_ ?_ <;> intro h_ <;> go_prune)
   | ((with_reducible refine qA 4 ?_); refine Bk hS rfl _ rfl (by kernel_rfl) ?_; clear hS; intro g w_ hS; (try simp only [Act.put, Act.eval, zz, Value.cells] at hS))
   | (go_at_call 112; refine (Do _ _).mono ?_; rw [HR.out]; rintro r_ w_ ⟨_, rfl, rfl, hb_⟩; replace hS := hS.ext hb_; clear hb_)
   | ((with_reducible show wpList _ _ _ (⟨_, .build _ _, _, _, _, _⟩ :: _) _ _); refine Aq rfl _ _ rfl #[.slice none 0 0] (by kernel_rfl) ?_)
   | ((with_reducible refine qM ?_); (first | refine qS hS ?_ | refine qT hS ?_); clear hS; intro w_ hS; (try simp only [Act.put, Act.eval, zz, Value.cells] at hS)))
  refine Bl Tryz.results117 rfl (hS.box 0 rfl) Tryz.underlying27 rfl (by kernel_rfl) rfl ?_
  exact AM.mk A6.empty hS.below
end
section
open Go.RowKit
set_option maxRecDepth 20000
def ON (k : Nat) (i : Nat) (p : World × Option Value) : Prop := i = k -> p.2 = none
section
variable {C : World -> Prop} {S : Value -> World -> Prop} {p p' : World × Option Value} {k : Nat}
end
end
section
open Go.RowKit
attribute [local go_sem ↓] Go.wp_at_zero Go.wp_at_succ
set_option maxRecDepth 20000
set_option exponentiation.threshold 5000
theorem Cr (r : Int) (w : World) : Calls Tryz.prog 127 #[.int .i64 r] w (AM (fun x _ => x = .bool (decide (1 <= r /\ r <= 63))) w) := by
 by_cases h1 : 1 <= r
 ·by_cases h2 : r <= 63
  ·have HR := Lib.hid (show decide (1 <= r /\ r <= 63) = true by simp [h1, h2])
   generalize decide (1 <= r /\ r <= 63) = R at *
   go_enter Tryz.func127, Tryz.ntmps127
   go_wp2_with (first | ((with_reducible refine qB ?_); refine qc ?_ ?_ <;> intro h_ <;> go_prune))
   go_ret
   exact AM.mk (congrArg Value.bool HR.out.symm) (Below.refl _ _)
  ·have HR := Lib.hid (show decide (1 <= r /\ r <= 63) = false by simp [h2])
   generalize decide (1 <= r /\ r <= 63) = R at *
   go_enter Tryz.func127, Tryz.ntmps127
   go_wp2_with (first | ((with_reducible refine qB ?_); refine qc ?_ ?_ <;> intro h_ <;> go_prune))
   go_ret
   exact AM.mk (congrArg Value.bool HR.out.symm) (Below.refl _ _)
 ·have HR := Lib.hid (show decide (1 <= r /\ r <= 63) = false by simp [h1])
  generalize decide (1 <= r /\ r <= 63) = R at *
  go_enter Tryz.func127, Tryz.ntmps127
  go_wp2_with (first | ((with_reducible refine qB ?_); refine qc ?_ ?_ <;> intro h_ <;> go_prune))
  go_ret
  exact AM.mk (congrArg Value.bool HR.out.symm) (Below.refl _ _)
theorem rhas_any {w0 : World} {D : Nat -> Prop} {pv : Value} {L : List (Nat × Nat)} (h : Sl w0 D 2 pv L.length (Ah L)) (hl : L.length <= 1000000) (a b : Int) :
  Calls Tryz.prog 128 #[pv, .int .i64 a, .int .i64 b] w0 (AM (fun x _ => ∃ c : Bool, x = .bool c /\ (c = true ↔ ∃ x ∈ L, a = (x.1 : Int) /\ b = (x.2 : Int))) w0) := by
 obtain ⟨A, c, rfl, _, _⟩ := h.shape
 obtain ⟨K, kp, hS⟩ : ∃ K : (Nat -> Prop) -> World -> Prop, (∀ D w, K D w -> Sl w D 2 (.slice A L.length c) L.length (Ah L)) /\ St w0 w0 [] K := ⟨_, fun _ _ h => h, St.start (Az (by decide)) h⟩
 clear h
 go_enter Tryz.func128, Tryz.ntmps128
 go_wp2_with (first | ((with_reducible refine qB ?_); refine qc ?_ ?_ <;> intro h_ <;> go_prune))
 go_loopw [11] (fun i wr => ∃ j : Nat, j <= L.length /\ i = .int .i64 j /\ Hid (∀ t, t < j -> ¬ (a = ((L.getD t (0, 0)).1 : Int) /\ b = ((L.getD t (0, 0)).2 : Int))) /\ St w0 wr [] K) (fun i _ => L.length - (intOf i).toNat)
 case atStart => exact ⟨0, by omega, rfl, Lib.hid (fun t h => absurd h (by omega)), hS⟩
 case round =>
  clear hS
  obtain ⟨j, hj, rfl, HJ, hS⟩ := hrel
  by_cases hlj : j < L.length
  ·obtain ⟨f1, f2⟩ := BB L j hlj
   have hm : Hid (L.getD j (0, 0) ∈ L) := Lib.hid (by rw [List.getD_eq_getElem?_getD, List.getElem?_eq_getElem hlj]; exact List.getElem_mem hlj)
   have HJ2 : Hid (¬ (a = ((L.getD j (0, 0)).1 : Int) /\ b = ((L.getD j (0, 0)).2 : Int)) -> ∀ t, t < j + 1 -> ¬ (a = ((L.getD t (0, 0)).1 : Int) /\ b = ((L.getD t (0, 0)).2 : Int))) := Lib.hid fun h t ht => if e : t = j then e ▸ h else HJ.out t (by omega)
   generalize L.getD j (0, 0) = x at *
   obtain ⟨xa, xb⟩ := x
   dsimp only at f1 f2 HJ2
   by_cases hx : a = (xa : Int)
   ·by_cases hy : b = (xb : Int)
    ·subst hx hy
     go_wp2_with (first
      | ((with_reducible refine qB ?_); refine qc ?_ ?_ <;> intro h_ <;> go_prune)
      | ((with_reducible refine qI ?_); refine qj hS Tryz.underlying32 ?_; intro b_ j_ hc0_ hc1_)
      | ((with_reducible refine qA 8 ?_); refine Bk hS rfl _ rfl (by kernel_rfl) ?_; clear hS; intro g4 w_ hS; (try simp only [Act.put, Act.eval, zz, Value.cells] at hS))
      | ((with_reducible refine qM ?_); (first | refine qS hS ?_ | refine qT hS ?_); clear hS; intro w_ hS; (try simp only [Act.put, Act.eval, zz, Value.cells] at hS))
      | ((with_reducible refine qK ?_); refine qC hS ?_))
     go_ret
     exact AM.mk (v := .bool true) (by first | exact ⟨true, rfl, fun _ => ⟨_, hm.out, rfl, rfl⟩, fun _ => rfl⟩ | exact .inr ⟨rfl, _, _, hm.out, rfl, rfl⟩) hS.below
    ·have HJ3 := Lib.hid (HJ2.out fun h => hy h.2)
     subst hx
     clear HJ2
     have hy' : ¬ ((xb : Nat) : Int) = b := fun e => hy e.symm
     go_wp2_with (first
      | ((with_reducible refine qB ?_); refine qc ?_ ?_ <;> intro h_ <;> go_prune)
      | ((with_reducible refine qI ?_); refine qj hS Tryz.underlying32 ?_; intro b_ j_ hc0_ hc1_)
      | ((with_reducible refine qA 8 ?_); refine Bk hS rfl _ rfl (by kernel_rfl) ?_; clear hS; intro g4 w_ hS; (try simp only [Act.put, Act.eval, zz, Value.cells] at hS))
      | ((with_reducible refine qM ?_); (first | refine qS hS ?_ | refine qT hS ?_); clear hS; intro w_ hS; (try simp only [Act.put, Act.eval, zz, Value.cells] at hS))
      | ((with_reducible refine qK ?_); refine qC hS ?_))
     exact ⟨⟨j + 1, hlj, by go_num, HJ3, hS.sub (List.sublist_cons_self _ _)⟩, by simp [intOf]; omega⟩
   ·have HJ3 := Lib.hid (HJ2.out fun h => hx h.1)
    clear HJ2
    have hx' : ¬ ((xa : Nat) : Int) = a := fun e => hx e.symm
    go_wp2_with (first
     | ((with_reducible refine qB ?_); refine qc ?_ ?_ <;> intro h_ <;> go_prune)
     | ((with_reducible refine qI ?_); refine qj hS Tryz.underlying32 ?_; intro b_ j_ hc0_ hc1_)
     | ((with_reducible refine qA 8 ?_); refine Bk hS rfl _ rfl (by kernel_rfl) ?_; clear hS; intro g4 w_ hS; (try simp only [Act.put, Act.eval, zz, Value.cells] at hS))
     | ((with_reducible refine qM ?_); (first | refine qS hS ?_ | refine qT hS ?_); clear hS; intro w_ hS; (try simp only [Act.put, Act.eval, zz, Value.cells] at hS))
     | ((with_reducible refine qK ?_); refine qC hS ?_))
    exact ⟨⟨j + 1, hlj, by go_num, HJ3, hS.sub (List.sublist_cons_self _ _)⟩, by simp [intOf]; omega⟩
  ·obtain rfl : j = L.length := by omega
   have HN : Hid (¬ ∃ x ∈ L, a = (x.1 : Int) /\ b = (x.2 : Int)) := Lib.hid fun ⟨x, hx, h⟩ => by
    obtain ⟨k, hk, e⟩ := List.getElem_of_mem hx
    refine HJ.out k hk ?_
    rw [List.getD_eq_getElem?_getD, List.getElem?_eq_getElem hk, Option.getD_some, e]
    exact h
   go_wp2_with (first | ((with_reducible refine qB ?_); refine qc ?_ ?_ <;> intro h_ <;> go_prune))
   go_ret
   exact AM.mk (v := .bool false) (by first | exact ⟨false, rfl, fun h => by simp at h, fun h => absurd h HN.out⟩ | exact .inl ⟨rfl, by simpa using HN.out⟩) hS.below
end
section
open Go.RowKit
attribute [local go_sem ↓] Go.wp_at_zero Go.wp_at_succ
set_option maxRecDepth 20000
def shrN (s r : Nat) : Nat := s / 2 ^ r
def rem2 (m : Nat) : Nat := m % 2
theorem bit_of {s r : Nat} : rem2 (shrN s r) = if s.testBit r then 1 else 0 := by
 unfold rem2 shrN
 rw [Nat.testBit_eq_decide_div_mod_eq]
 by_cases h : s / 2 ^ r % 2 = 1
 ·simp [h]
 ·have : s / 2 ^ r % 2 = 0 := by omega
  simp [this]
theorem pow_lt_64 {r : Nat} (h : r < 64) : 2 ^ r < BK := by rw [Cn]; exact Nat.pow_lt_pow_right (by decide) h
section
variable {P : Program} {ops : Array Oper} {rest : List Oper} {o : Oper} {a : Act} {w : World} {Q : Exit -> Act -> World -> Prop}
theorem Gm (hg : Region.wanted o (yielded ops a.tmps) = true) (t t2 : TypeId) (x y : Operand) (ho : o.op = .binOp .shr t x y t2) (s r : Nat) (hx : a.eval x = .int .u64 (s : Nat)) (hy : a.eval y = .int .i64 (r : Nat)) (hr : r <= 64)
  (hk : wpList P ops Q rest (a.put o.dst (.int .u64 (shrN s r : Nat))) w) : wpList P ops Q (o :: rest) a w := by
 refine BigFrame.wpList_want hg fun _ hK => Bb (v := .int .u64 (shrN s r : Nat)) ho hx hy (by simp [eqGuard]) ?_ (hK _ _ hk)
 rw [binOp_shr, shift_shr _ _ _ _ (by omega) (by show (r : Int) <= 64; omega)]
 simp [shrN]
theorem Gn (hg : Region.wanted o (yielded ops a.tmps) = true) (t t2 : TypeId) (x y : Operand) (ho : o.op = .binOp .rem t x y t2) (m : Nat) (hx : a.eval x = .int .u64 (m : Nat)) (hy : a.eval y = .int .u64 2)
  (hk : wpList P ops Q rest (a.put o.dst (.int .u64 (rem2 m : Nat))) w) : wpList P ops Q (o :: rest) a w := by
 refine BigFrame.wpList_want hg fun _ hK => Bb (v := .int .u64 (rem2 m : Nat)) ho hx hy (by simp [eqGuard]) ?_ (hK _ _ hk)
 go_simp
 exact tmod_nat m 2
theorem F4 (hg : Region.wanted o (yielded ops a.tmps) = true) (t t2 : TypeId) (x y : Operand) (ho : o.op = .binOp .eql t x y t2) (s r : Nat) (hx : a.eval x = .int .u64 (rem2 (shrN s r) : Nat)) (hy : a.eval y = .int .u64 1) {b : Bool} (hb : s.testBit r = b)
  (hk : wpList P ops Q rest (a.put o.dst (.bool b)) w) : wpList P ops Q (o :: rest) a w := by
 refine BigFrame.wpList_want hg fun _ hK => Bb (v := .bool b) ho hx hy (by simp [eqGuard]) ?_ (hK _ _ hk)
 rw [binOp_eql, bit_of, hb]
 cases b <;> simp
theorem st_shl1 (hg : Region.wanted o (yielded ops a.tmps) = true) (t t2 : TypeId) (x y : Operand) (ho : o.op = .binOp .shl t x y t2) (r : Nat) (hx : a.eval x = .int .u64 1) (hy : a.eval y = .int .i64 (r : Nat)) (hr : r < 64)
  (hk : wpList P ops Q rest (a.put o.dst (.int .u64 (2 ^ r : Nat))) w) : wpList P ops Q (o :: rest) a w := by
 have h := IW (P := P) (w := w) (t := t) (r := r) (e := (r : Nat)) (by rw [Nat.mod_eq_of_lt hr])
 rw [Nat.mod_eq_of_lt hr] at h
 exact BigFrame.wpList_want hg fun _ hK => Bb (v := .int .u64 (2 ^ r : Nat)) ho hx hy (by simp [eqGuard]) h (hK _ _ hk)
theorem st_orN (hg : Region.wanted o (yielded ops a.tmps) = true) (t t2 : TypeId) (x y : Operand) (ho : o.op = .binOp .or t x y t2) (m n : Nat) (hx : a.eval x = .int .u64 (m : Nat)) (hy : a.eval y = .int .u64 (n : Nat)) (hm : m < BK) (hn : n < BK)
  (hk : wpList P ops Q rest (a.put o.dst (.int .u64 (m ||| n : Nat))) w) : wpList P ops Q (o :: rest) a w :=
 BigFrame.wpList_want hg fun _ hK => Bb (v := .int .u64 (m ||| n : Nat)) ho hx hy (by simp [eqGuard]) (Hx hm hn) (hK _ _ hk)
end
end
section
open Go.RowKit
attribute [local go_sem ↓] Go.wp_at_zero Go.wp_at_succ
set_option maxRecDepth 20000
set_option exponentiation.threshold 5000
def Ih (L : List (Nat × Nat)) (r s : Int) : Prop := ∃ i j : Nat, r = (i : Int) /\ s = (j : Int) /\ (1 <= i /\ i < 64) /\ (1 <= j /\ j < 64) /\ (i = j \/ TC L i j)
noncomputable def junR (L : List (Nat × Nat)) (r : Int) : Nat := if 1 <= r /\ r <= 63 then junM L r.toNat else 0
theorem rjun_any {w0 : World} {D : Nat -> Prop} {pv : Value} {L : List (Nat × Nat)} (h : Sl w0 D 2 pv L.length (Ah L)) (hL : ES 64 L) (hl : L.length <= 1000000) (r : Int) :
  Calls Tryz.prog 99 #[pv, .int .i64 r] w0 (AM (fun x _ => x = .int .u64 (junR L r : Nat)) w0) := by
 obtain ⟨A, c, rfl, _, _⟩ := h.shape
 obtain ⟨K, kp, hS⟩ : ∃ K : (Nat -> Prop) -> World -> Prop, (∀ D w, K D w -> Sl w D 2 (.slice A L.length c) L.length (Ah L)) /\ St w0 w0 [] K := ⟨_, fun _ _ h => h, St.start (Az (by decide)) h⟩
 clear h
 by_cases hr : 1 <= r /\ r <= 63
 ·obtain ⟨k, rfl⟩ : ∃ k : Nat, r = (k : Int) := ⟨r.toNat, by omega⟩
  have HR := Lib.hid (decide_eq_true hr)
  have hk : k < 64 := by omega
  have HJ := Lib.hid (show junR L (k : Int) = junM L k by rw [junR, if_pos hr, Int.toNat_natCast])
  have HL := Lib.hid hL
  have H0 : Hid (Fo L k (2 ^ k) /\ 2 ^ k < 2 ^ 64) := Lib.hid ⟨Fo.start L k, Nat.pow_lt_pow_right (by decide) hk⟩
  clear hr hL
  go_enter Tryz.func99, Tryz.ntmps99
  go_wp2_with (first
   | (go_at_call 127; refine (Cr _ _).mono ?_; rw [HR.out]; rintro r_ w_ ⟨_, rfl, rfl, hb_⟩; replace hS := hS.ext hb_; clear hb_)
   | ((with_reducible refine qb .shl ?_); refine st_shl1 rfl _ _ _ _ rfl _ rfl rfl hk ?_))
  go_loopw [5] (fun v wr => ∃ s : Nat, v = .int .u64 (s : Nat) /\ Hid (Fo L k s /\ s < 2 ^ 64) /\ St w0 wr [] K) (fun v _ => outN (intOf v).toNat)
  case atStart => exact ⟨_, rfl, H0, hS⟩
  case round =>
   clear hS H0
   obtain ⟨s, rfl, HS, hS⟩ := hrel
   go_wp2_with (first | ((with_reducible refine qB ?_); refine qc ?_ ?_ <;> intro h_ <;> go_prune))
   go_loopw [6, 17] (fun m i wr => ∃ j : Nat, j <= L.length /\ i = .int .i64 (j : Nat) /\ m = .int .u64 (jTo L s j : Nat) /\ St w0 wr [] K) (fun _ i _ => L.length - (intOf i).toNat)
   case atStart => exact ⟨0, by omega, rfl, by simp [jTo], hS⟩
   case round =>
    clear hS
    obtain ⟨j, hj, rfl, rfl, hS⟩ := hrel
    by_cases hlj : j < L.length
    ·obtain ⟨f1, f2⟩ := BB L j hlj
     have HG := Lib.hid (Br (0, 0) hlj)
     have hm := HL.out (L.getD j (0, 0)) (by rw [List.getD_eq_getElem?_getD, List.getElem?_eq_getElem hlj]; exact List.getElem_mem hlj)
     have HSt := Lib.hid (jTo_step (s := s) HG.out)
     have hM : jTo L s j < BK := by rw [Cn]; exact jTo_lt HL.out HS.out.2
     generalize L.getD j (0, 0) = x at *
     generalize jTo L s j = M at *
     obtain ⟨xa, xb⟩ := x
     dsimp only at f1 f2 hm HSt
     obtain ⟨hxa, hxb⟩ := hm
     cases hbit : s.testBit xa
     ·rw [hbit] at HSt
      have HE := Lib.hid (HSt.out.trans (if_neg (by simp)))
      go_wp2_with (first
       | ((with_reducible refine qb .shr ?_); refine Gm rfl _ _ _ _ rfl _ _ rfl rfl (by omega) ?_)
       | ((with_reducible refine qb .rem ?_); refine Gn rfl _ _ _ _ rfl _ rfl rfl ?_)
       | ((with_reducible refine qA 26 ?_); refine F4 rfl _ _ _ _ rfl _ _ rfl rfl hbit ?_)
       | ((with_reducible refine qB ?_); refine qc ?_ ?_ <;> intro h_ <;> go_prune)
       | ((with_reducible refine qI ?_); refine qj hS Tryz.underlying32 ?_; intro b_ j_ hc0_ hc1_)
       | ((with_reducible refine qA 8 ?_); refine Bk hS rfl _ rfl (by kernel_rfl) ?_; clear hS; intro g4 w_ hS; (try simp only [Act.put, Act.eval, zz, Value.cells] at hS))
       | ((with_reducible refine qM ?_); (first | refine qS hS ?_ | refine qT hS ?_); clear hS; intro w_ hS; (try simp only [Act.put, Act.eval, zz, Value.cells] at hS))
       | ((with_reducible refine qK ?_); refine qC hS ?_))
      exact ⟨⟨j + 1, hlj, by go_num, by rw [HE.out], hS.sub (List.sublist_cons_self _ _)⟩, by simp [intOf]; omega⟩
     ·rw [hbit] at HSt
      have HE := Lib.hid (HSt.out.trans (if_pos rfl))
      go_wp2_with (first
       | ((with_reducible refine qb .shr ?_); refine Gm rfl _ _ _ _ rfl _ _ rfl rfl (by omega) ?_)
       | ((with_reducible refine qb .rem ?_); refine Gn rfl _ _ _ _ rfl _ rfl rfl ?_)
       | ((with_reducible refine qb .shl ?_); refine st_shl1 rfl _ _ _ _ rfl _ rfl rfl hxb ?_)
       | ((with_reducible refine qb .or ?_); refine st_orN rfl _ _ _ _ rfl _ _ rfl rfl hM (pow_lt_64 hxb) ?_)
       | ((with_reducible refine qA 26 ?_); refine F4 rfl _ _ _ _ rfl _ _ rfl rfl hbit ?_)
       | ((with_reducible refine qB ?_); refine qc ?_ ?_ <;> intro h_ <;> go_prune)
       | ((with_reducible refine qI ?_); refine qj hS Tryz.underlying32 ?_; intro b_ j_ hc0_ hc1_)
       | ((with_reducible refine qA 8 ?_); refine Bk hS rfl _ rfl (by kernel_rfl) ?_; clear hS; intro g4 w_ hS; (try simp only [Act.put, Act.eval, zz, Value.cells] at hS))
       | ((with_reducible refine qM ?_); (first | refine qS hS ?_ | refine qT hS ?_); clear hS; intro w_ hS; (try simp only [Act.put, Act.eval, zz, Value.cells] at hS))
       | ((with_reducible refine qK ?_); refine qC hS ?_))
      exact ⟨⟨j + 1, hlj, by go_num, by rw [HE.out], hS.sub (List.sublist_cons_self _ _)⟩, by simp [intOf]; omega⟩
    ·obtain rfl : j = L.length := by omega
     have HM : Hid (jTo L s L.length < 2 ^ 64 /\ Fo L k (jTo L s L.length) /\ (∀ i, s.testBit i = true -> (jTo L s L.length).testBit i = true)) := Lib.hid ⟨jTo_lt HL.out HS.out.2, HS.out.1.next, fun i hi => (IJ (Nat.le_refl _)).2 (.inl hi)⟩
     by_cases he : jTo L s L.length = s
     ·have HF := Lib.hid (HS.out.1.stop HL.out hk he)
      rw [he]
      go_wp2_with (first | ((with_reducible refine qB ?_); refine qc ?_ ?_ <;> intro h_ <;> go_prune))
      go_ret
      exact AM.mk (by rw [HJ.out, <- HF.out]; rfl) hS.below
     ·have HO := Lib.hid (outN_lt HS.out.2 HM.out.1 HM.out.2.2 he)
      generalize jTo L s L.length = M at *
      have he2 : ¬ (M : Int) = (s : Int) := by omega
      go_wp2_with (first | ((with_reducible refine qB ?_); refine qc ?_ ?_ <;> intro h_ <;> go_prune))
      exact ⟨⟨M, rfl, Lib.hid ⟨HM.out.2.1, HM.out.1⟩, hS⟩, by simpa [intOf] using HO.out⟩
 ·have HR := Lib.hid (decide_eq_false hr)
  have HJ := Lib.hid (show junR L r = 0 by rw [junR, if_neg hr])
  rw [HJ.out]
  clear hr
  go_enter Tryz.func99, Tryz.ntmps99
  go_wp2_with (first
   | (go_at_call 127; refine (Cr _ _).mono ?_; rw [HR.out]; rintro r_ w_ ⟨_, rfl, rfl, hb_⟩; replace hS := hS.ext hb_; clear hb_))
  go_ret
  exact AM.mk rfl hS.below
theorem impl_junR {L : List (Nat × Nat)} (hL : ES 64 L) (r s : Int) : (1 <= s /\ s <= 63) /\ (junR L r).testBit s.toNat = true ↔ Ih L r s := by
 unfold junR Ih
 constructor
 ·rintro ⟨h1, h2⟩
  by_cases hr : 1 <= r /\ r <= 63
  ·rw [if_pos hr, Hp hL (by omega)] at h2
   exact ⟨r.toNat, s.toNat, by omega, by omega, by omega, by omega, h2.imp (fun h => h.symm) id⟩
  ·rw [if_neg hr, Nat.zero_testBit] at h2; cases h2
 ·rintro ⟨i, j, rfl, rfl, h1, h2, h3⟩
  refine ⟨by omega, ?_⟩
  rw [if_pos (by omega), Int.toNat_natCast, Int.toNat_natCast, Hp hL (by omega)]
  exact h3.imp (fun h => h.symm) id
theorem rimpl_any {w0 : World} {D : Nat -> Prop} {pv : Value} {L : List (Nat × Nat)} (h : Sl w0 D 2 pv L.length (Ah L)) (hL : ES 64 L) (hl : L.length <= 1000000) (r s : Int) :
  Calls Tryz.prog 129 #[pv, .int .i64 r, .int .i64 s] w0 (AM (fun x _ => ∃ c : Bool, x = .bool c /\ (c = true ↔ Ih L r s)) w0) := by
 have HJ := Lib.hid (fun w (hb : Below w0.heap.size w0 w) => rjun_any (h.ext hb) hL hl r)
 have HI := Lib.hid (impl_junR hL r s)
 by_cases hs : 1 <= s /\ s <= 63
 ·obtain ⟨k, rfl⟩ : ∃ k : Nat, s = (k : Int) := ⟨s.toNat, by omega⟩
  have HR := Lib.hid (decide_eq_true hs)
  have hk : k < 64 := by omega
  rw [Int.toNat_natCast] at HI
  have HI2 : Hid ((junR L r).testBit k = true ↔ Ih L r k) := Lib.hid ⟨fun h => HI.out.1 ⟨hs, h⟩, fun h => (HI.out.2 h).2⟩
  clear hs HI
  obtain ⟨b, hb0⟩ : ∃ b, (junR L r).testBit k = b := ⟨_, rfl⟩
  have hb := Lib.hid hb0
  rw [hb0] at HI2
  generalize junR L r = J at *
  clear hb0
  go_enter Tryz.func129, Tryz.ntmps129
  go_wp2_with (first
   | (go_at_call 127; refine (Cr _ _).mono ?_; rw [HR.out]; rintro r_ w_ ⟨_, rfl, rfl, hb_⟩)
   | (go_at_call 99; refine (HJ.out _ hb_).mono ?_; rintro r_ w2 ⟨_, rfl, rfl, hb2⟩)
   | ((with_reducible refine qb .shr ?_); refine Gm rfl _ _ _ _ rfl _ _ rfl rfl (by omega) ?_)
   | ((with_reducible refine qb .rem ?_); refine Gn rfl _ _ _ _ rfl _ rfl rfl ?_)
   | ((with_reducible refine qA 16 ?_); refine F4 rfl _ _ _ _ rfl _ _ rfl rfl hb.out ?_))
  go_ret
  exact AM.mk ⟨b, rfl, HI2.out⟩ (C1 hb_ hb2)
 ·have HR := Lib.hid (decide_eq_false hs)
  have HI2 : Hid (¬ Ih L r s) := Lib.hid fun h => hs (HI.out.2 h).1
  clear hs HI
  go_enter Tryz.func129, Tryz.ntmps129
  go_wp2_with (first
   | (go_at_call 127; refine (Cr _ _).mono ?_; rw [HR.out]; rintro r_ w_ ⟨_, rfl, rfl, hb_⟩))
  go_ret
  exact AM.mk ⟨false, rfl, fun h => by simp at h, fun h => absurd h HI2.out⟩ hb_
noncomputable def closTo (L : List (Nat × Nat)) (s k : Nat) : Nat := (List.range k).foldl (fun m r => if 1 <= r /\ s.testBit r then m ||| junM L r else m) 0
theorem E6 (L : List (Nat × Nat)) (s k : Nat) : closTo L s (k + 1) = if 1 <= k /\ s.testBit k then closTo L s k ||| junM L k else closTo L s k := by
 unfold closTo; rw [List.range_succ, List.foldl_append]; rfl
theorem Fv {L : List (Nat × Nat)} {s i : Nat} : ∀ {k : Nat}, (closTo L s k).testBit i = true ↔ ∃ r, r < k /\ 1 <= r /\ s.testBit r = true /\ (junM L r).testBit i = true
 | 0 => by simp [closTo]
 | k + 1 => by
  rw [E6]
  split
  ·rename_i h
   rw [DT, Fv]
   constructor
   ·rintro (⟨r, h1, h2⟩ | h1)
    ·exact ⟨r, by omega, h2⟩
    ·exact ⟨k, by omega, h.1, h.2, h1⟩
   ·rintro ⟨r, h1, h2, h3, h4⟩
    rcases Nat.lt_or_ge r k with h5 | h5
    ·exact .inl ⟨r, h5, h2, h3, h4⟩
    ·obtain rfl : r = k := by omega
     exact .inr h4
  ·rename_i h
   rw [Fv]
   constructor
   ·rintro ⟨r, h1, h2⟩
    exact ⟨r, by omega, h2⟩
   ·rintro ⟨r, h1, h2, h3, h4⟩
    rcases Nat.lt_or_ge r k with h5 | h5
    ·exact ⟨r, h5, h2, h3, h4⟩
    ·obtain rfl : r = k := by omega
     exact absurd ⟨h2, h3⟩ h
theorem junM_lt (L : List (Nat × Nat)) (r : Nat) : junM L r < 2 ^ 64 := by
 apply Nat.lt_pow_two_of_testBit
 intro i hi
 cases e : (junM L r).testBit i with
 | false => rfl
 | true => rw [junM, BG] at e; omega
theorem FD (L : List (Nat × Nat)) (s : Nat) : ∀ k, closTo L s k < 2 ^ 64
 | 0 => by simp [closTo]
 | k + 1 => by
  rw [E6]
  split
  ·exact Nat.or_lt_two_pow (FD L s k) (junM_lt L k)
  ·exact FD L s k
noncomputable def closM (L : List (Nat × Nat)) (s : Nat) : Nat := closTo L s 64
theorem rclos_any {w0 : World} {D : Nat -> Prop} {pv : Value} {L : List (Nat × Nat)} (h : Sl w0 D 2 pv L.length (Ah L)) (hL : ES 64 L) (hl : L.length <= 1000000) (s : Nat) :
  Calls Tryz.prog 56 #[pv, .int .u64 (s : Nat)] w0 (AM (fun x _ => x = .int .u64 (closM L s : Nat)) w0) := by
 obtain ⟨A, c, rfl, _, _⟩ := h.shape
 have HJ := Lib.hid (fun w (hb : Below w0.heap.size w0 w) (r : Int) => rjun_any (h.ext hb) hL hl r)
 have hB := Below.refl w0.heap.size w0
 clear h
 go_enter Tryz.func56, Tryz.ntmps56
 go_wp2_with fail
 go_loopw [5, 6] (fun m i wr => ∃ k : Nat, 1 <= k /\ k <= 64 /\ i = .int .i64 (k : Nat) /\ m = .int .u64 (closTo L s k : Nat) /\ Below w0.heap.size w0 wr) (fun _ i _ => 64 - (intOf i).toNat)
 case atStart => exact ⟨1, by omega, by omega, rfl, by rw [E6]; simp [closTo], hB⟩
 case round =>
  clear hB
  obtain ⟨k, hk1, hk2, rfl, rfl, hB⟩ := hrel
  have hM : closTo L s k < BK := by rw [Cn]; exact FD L s k
  by_cases hk : k < 64
  ·have HSt := Lib.hid (E6 L s k)
   have hJ2 : junM L k < BK := by rw [Cn]; exact junM_lt L k
   have HJ3 := Lib.hid (show junR L (k : Int) = junM L k by rw [junR, if_pos (by omega), Int.toNat_natCast])
   generalize closTo L s k = M at *
   generalize junM L k = J at *
   cases hbit : s.testBit k
   ·rw [hbit] at HSt
    have HE := Lib.hid (HSt.out.trans (if_neg (by simp)))
    go_wp2_with (first
     | ((with_reducible refine qb .shr ?_); refine Gm rfl _ _ _ _ rfl _ _ rfl rfl (by omega) ?_)
     | ((with_reducible refine qb .rem ?_); refine Gn rfl _ _ _ _ rfl _ rfl rfl ?_)
     | ((with_reducible refine qA 15 ?_); refine F4 rfl _ _ _ _ rfl _ _ rfl rfl hbit ?_)
     | ((with_reducible refine qB ?_); refine qc ?_ ?_ <;> intro h_ <;> go_prune))
    exact ⟨⟨k + 1, by omega, by omega, by go_num, by rw [HE.out], hB⟩, by simp [intOf]; omega⟩
   ·rw [hbit] at HSt
    have HE := Lib.hid (HSt.out.trans (if_pos ⟨hk1, rfl⟩))
    go_wp2_with (first
     | ((with_reducible refine qb .shr ?_); refine Gm rfl _ _ _ _ rfl _ _ rfl rfl (by omega) ?_)
     | ((with_reducible refine qb .rem ?_); refine Gn rfl _ _ _ _ rfl _ rfl rfl ?_)
     | ((with_reducible refine qb .or ?_); refine st_orN rfl _ _ _ _ rfl _ _ rfl rfl hM hJ2 ?_)
     | ((with_reducible refine qA 15 ?_); refine F4 rfl _ _ _ _ rfl _ _ rfl rfl hbit ?_)
     | (go_at_call 99; refine (HJ.out _ hB _).mono ?_; rw [HJ3.out]; rintro r_ w2 ⟨_, rfl, rfl, hb2⟩)
     | ((with_reducible refine qB ?_); refine qc ?_ ?_ <;> intro h_ <;> go_prune))
    exact ⟨⟨k + 1, by omega, by omega, by go_num, by rw [HE.out], C1 hB hb2⟩, by simp [intOf]; omega⟩
  ·obtain rfl : k = 64 := by omega
   go_wp2_with (first | ((with_reducible refine qB ?_); refine qc ?_ ?_ <;> intro h_ <;> go_prune))
   go_ret
   exact AM.mk rfl hB
theorem maskOf_lt (n : Nat) (P : Nat -> Prop) : maskOf n P < 2 ^ n := by
 apply Nat.lt_pow_two_of_testBit
 intro i hi
 cases e : (maskOf n P).testBit i with
 | false => rfl
 | true => rw [BG] at e; omega
end
section
open Go.RowKit
attribute [local go_sem ↓] Go.wp_at_zero Go.wp_at_succ
set_option maxRecDepth 20000
set_option exponentiation.threshold 5000
def twoR (a b : Int) : Prop := (1 <= a /\ a <= 63) /\ (1 <= b /\ b <= 63) /\ a ≠ b
def RLinkP (w0 : World) (pv : Value) (L : List (Nat × Nat)) (a b : Int) (e : Ending) (w' : World) : Prop :=
 (¬ twoR a b /\ e = .returned (.tuple #[pv, .int .i64 1]) /\ Below w0.heap.size w0 w') \/
 ∃ x y : Nat, a = (x : Int) /\ b = (y : Int) /\ (1 <= x /\ x < 64) /\ (1 <= y /\ y < 64) /\ x ≠ y /\
  (((x, y) ∈ L /\ e = .returned (.tuple #[pv, .int .i64 5]) /\ Below w0.heap.size w0 w') \/
   ((x, y) ∉ L /\ TC L y x /\ e = .returned (.tuple #[pv, .int .i64 16]) /\ Below w0.heap.size w0 w') \/
   ((x, y) ∉ L /\ ¬ TC L y x /\ ∃ v, e = .returned (.tuple #[v, .int .i64 0]) /\ St w0 w' [.own v 151 2 (L.length + 1) (Ah (ins L (x, y)))] fun _ _ => True))
theorem ins_at {L : List (Nat × Nat)} {y : Nat × Nat} {i : Nat} (h : i <= Db L y) {x : Nat × Nat} (hx : L[i]? = some x) : (I9 x y -> i + 1 <= Db L y) /\ (¬ I9 x y -> i = Db L y) := by
 constructor
 ·intro hp
  rcases Nat.lt_or_ge i (Db L y) with h1 | h1
  ·exact h1
  ·obtain rfl : i = Db L y := by omega
   exact absurd hp (insAt_stop hx)
 ·intro hp
  rcases Nat.lt_or_ge i (Db L y) with h1 | h1
  ·obtain ⟨z, h2, h3⟩ := insAt_lt h1
   rw [hx] at h2
   cases h2
   exact absurd h3 hp
  ·omega
theorem F9 (L : List (Nat × Nat)) : ∀ k, (Ah L).drop (k * 2) = Ah (L.drop k) := by
 induction L with
 | nil => intro k; simp [Ah]
 | cons x L ih =>
  intro k
  cases k with
  | zero => simp [Ah]
  | succ k => rw [show (k + 1) * 2 = k * 2 + 1 + 1 by omega, DX]; simp [ih]
def BO (L : List (Nat × Nat)) (z : Nat × Nat) (i : Nat) : AD := ⟨151, 2, 4, fun s => match s with | 0 => 0 | 1 => 0 + i | 2 => 0 + i + 1 | _ => 0 + i + 1 + (L.length - i), fun s => match s with | 0 => [] | 1 => [] ++ (Ah L).take (i * 2) | 2 => [] ++ (Ah L).take (i * 2) ++ Ah [z] | _ => [] ++ (Ah L).take (i * 2) ++ Ah [z] ++ (Ah L).drop (i * 2), fun _ v => .own v 151 2 1 (Ah [z])⟩
def CN : List (Nat × (Bool × Nat)) := [(0, (true, 0)), (4, (true, 1)), (8, (false, 0)), (9, (true, 2)), (13, (true, 3))]
set_option maxHeartbeats 2000000 in
theorem rlink_any {w0 : World} {D : Nat -> Prop} {pv : Value} {L : List (Nat × Nat)} (h : Sl w0 D 2 pv L.length (Ah L)) (hL : ES 64 L) (hl : L.length <= 1000000) (a b : Int) :
  Calls Tryz.prog 90 #[pv, .int .i64 a, .int .i64 b] w0 (RLinkP w0 pv L a b) := by
 obtain ⟨A, c, rfl, hc1, _⟩ := h.shape
 obtain ⟨K, kp, hS⟩ : ∃ K : (Nat -> Prop) -> World -> Prop, (∀ D w, K D w -> Sl w D 2 (.slice A L.length c) L.length (Ah L)) /\ St w0 w0 [] K := ⟨_, fun _ _ h => h, St.start (Az (by decide)) h⟩
 clear h
 have HH := Lib.hid (fun (w : World) (D : Nat -> Prop) (h : Sl w D 2 (.slice A L.length c) L.length (Ah L)) => rhas_any h hl a b)
 have HI := Lib.hid (fun (w : World) (D : Nat -> Prop) (h : Sl w D 2 (.slice A L.length c) L.length (Ah L)) => rimpl_any h hL hl b a)
 by_cases hra : 1 <= a /\ a <= 63
 ·have HRA := Lib.hid (decide_eq_true hra)
  by_cases hrb : 1 <= b /\ b <= 63
  ·have HRB := Lib.hid (decide_eq_true hrb)
   by_cases hab : a = b
   ·subst hab
    have HNO : Hid (¬ twoR a a) := Lib.hid fun h => h.2.2 rfl
    clear hra hrb
    go_enter Tryz.func90, Tryz.ntmps90
    go_wp2_with (first
     | ((with_reducible refine qB ?_); refine qc ?_ ?_ <;> intro h_ <;> go_prune)
     | (go_at_call 127; refine (Cr _ _).mono ?_; (first | rw [HRA.out] | rw [HRB.out]); rintro r_ w_ ⟨_, rfl, rfl, hb_⟩; replace hS := hS.ext hb_; clear hb_))
    go_ret2
    exact .inl ⟨HNO.out, rfl, hS.below⟩
   ·obtain ⟨x, rfl⟩ : ∃ x : Nat, a = (x : Int) := ⟨a.toNat, by omega⟩
    obtain ⟨y, rfl⟩ : ∃ y : Nat, b = (y : Int) := ⟨b.toNat, by omega⟩
    have hx1 : Hid (1 <= x /\ x < 64) := Lib.hid (by omega)
    have hy1 : Hid (1 <= y /\ y < 64) := Lib.hid (by omega)
    have hxy : Hid (x ≠ y) := Lib.hid (by omega)
    have HC1 : Hid (∀ c : Bool, (c = true ↔ ∃ z ∈ L, (x : Int) = (z.1 : Int) /\ (y : Int) = (z.2 : Int)) -> c = decide ((x, y) ∈ L)) := Lib.hid fun c hc => by
     rw [Bool.eq_iff_iff, hc, decide_eq_true_iff]
     constructor
     ·rintro ⟨⟨za, zb⟩, h1, h2, h3⟩
      dsimp only at h2 h3
      obtain rfl : x = za := by omega
      obtain rfl : y = zb := by omega
      exact h1
     ·intro h; exact ⟨_, h, rfl, rfl⟩
    have HC2 : Hid (∀ c : Bool, (c = true ↔ Ih L (y : Nat) (x : Nat)) -> (c = true ↔ TC L y x)) := Lib.hid fun c hc => hc.trans ⟨fun ⟨i, j, h1, h2, _, _, h3⟩ => by
      obtain rfl : y = i := by omega
      obtain rfl : x = j := by omega
      exact h3.resolve_left fun e => hxy.out e.symm, fun h => ⟨y, x, rfl, rfl, hy1.out, hx1.out, .inr h⟩⟩
    clear hra hrb
    by_cases hm : (x, y) ∈ L
    ·go_enter Tryz.func90, Tryz.ntmps90
     go_wp2_with (first
      | ((with_reducible refine qB ?_); refine qc ?_ ?_ <;> intro h_ <;> go_prune)
      | (go_at_call 127; refine (Cr _ _).mono ?_; (first | rw [HRA.out] | rw [HRB.out]); rintro r_ w_ ⟨_, rfl, rfl, hb_⟩; replace hS := hS.ext hb_; clear hb_)
      | (go_at_call 128; refine (HH.out _ _ (kp _ _ hS.ro)).mono ?_; rintro r_ w_ ⟨_, rfl, ⟨c, rfl, hc⟩, hb_⟩; replace hc := HC1.out c hc; rw [decide_eq_true hm] at hc; subst hc; replace hS := hS.ext hb_; clear hb_))
     go_ret2
     exact .inr ⟨x, y, rfl, rfl, hx1.out, hy1.out, hxy.out, .inl ⟨hm, rfl, hS.below⟩⟩
    ·by_cases ht : TC L y x
     ·have HT := Lib.hid ht
      have HC3 : Hid (∀ c : Bool, (c = true ↔ Ih L (y : Nat) (x : Nat)) -> c = true) := Lib.hid fun c hc => (HC2.out c hc).2 ht
      clear ht
      go_enter Tryz.func90, Tryz.ntmps90
      go_wp2_with (first
       | ((with_reducible refine qB ?_); refine qc ?_ ?_ <;> intro h_ <;> go_prune)
       | (go_at_call 127; refine (Cr _ _).mono ?_; (first | rw [HRA.out] | rw [HRB.out]); rintro r_ w_ ⟨_, rfl, rfl, hb_⟩; replace hS := hS.ext hb_; clear hb_)
       | (go_at_call 128; refine (HH.out _ _ (kp _ _ hS.ro)).mono ?_; rintro r_ w_ ⟨_, rfl, ⟨c, rfl, hc⟩, hb_⟩; replace hc := HC1.out c hc; rw [decide_eq_false hm] at hc; subst hc; replace hS := hS.ext hb_; clear hb_)
       | (go_at_call 129; refine (HI.out _ _ (kp _ _ hS.ro)).mono ?_; rintro r_ w_ ⟨_, rfl, ⟨c, rfl, hc⟩, hb_⟩; obtain rfl := HC3.out c hc; clear hc; replace hS := hS.ext hb_; clear hb_))
      go_ret2
      exact .inr ⟨x, y, rfl, rfl, hx1.out, hy1.out, hxy.out, .inr (.inl ⟨hm, HT.out, rfl, hS.below⟩)⟩
     ·have HT := Lib.hid ht
      have HC3 : Hid (∀ c : Bool, (c = true ↔ Ih L (y : Nat) (x : Nat)) -> c = false) := Lib.hid fun c hc => by
       cases c with
       | true => exact absurd ((HC2.out true hc).1 rfl) ht
       | false => rfl
      clear ht
      go_enter Tryz.func90, Tryz.ntmps90
      go_wp2_with (first
       | ((with_reducible refine qB ?_); refine qc ?_ ?_ <;> intro h_ <;> go_prune)
       | (go_at_call 127; refine (Cr _ _).mono ?_; (first | rw [HRA.out] | rw [HRB.out]); rintro r_ w_ ⟨_, rfl, rfl, hb_⟩; replace hS := hS.ext hb_; clear hb_)
       | (go_at_call 128; refine (HH.out _ _ (kp _ _ hS.ro)).mono ?_; rintro r_ w_ ⟨_, rfl, ⟨c, rfl, hc⟩, hb_⟩; replace hc := HC1.out c hc; rw [decide_eq_false hm] at hc; subst hc; replace hS := hS.ext hb_; clear hb_)
       | (go_at_call 129; refine (HI.out _ _ (kp _ _ hS.ro)).mono ?_; rintro r_ w_ ⟨_, rfl, ⟨c, rfl, hc⟩, hb_⟩; obtain rfl := HC3.out c hc; clear hc; replace hS := hS.ext hb_; clear hb_))
      go_loopw [8] (fun v wr => ∃ i : Nat, v = .int .i64 (i : Nat) /\ i <= L.length /\ Hid (i <= Db L (x, y)) /\ St w0 wr [] K) (fun v _ => L.length - (intOf v).toNat)
      case atStart => exact ⟨0, rfl, by omega, Lib.hid (Nat.zero_le _), hS⟩
      case round =>
       clear hS HH HI
       obtain ⟨i, rfl, hil, HIA, hS⟩ := hrel
       by_cases hlt : i < L.length
       ·obtain ⟨f1, f2⟩ := BB L i hlt
        have HST := Lib.hid (ins_at HIA.out (Br (0, 0) hlt))
        generalize L.getD i (0, 0) = z at *
        obtain ⟨za, zb⟩ := z
        dsimp only at f1 f2
        rcases Nat.lt_trichotomy za x with h1 | h1 | h1
        ·have HN := Lib.hid (HST.out.1 (.inl h1))
         clear HST
         go_wp2_with (first
          | ((with_reducible refine qB ?_); refine qc ?_ ?_ <;> intro h_ <;> go_prune)
          | ((with_reducible refine qI ?_); refine qj hS Tryz.underlying32 ?_; intro b_ j_ hc0_ hc1_)
          | ((with_reducible refine qK ?_); first | refine BigFrame.wpList_want rfl fun _ hK => At rfl rfl (by kernel_rfl) hc0_ (hK _ _ ?_) | refine BigFrame.wpList_want rfl fun _ hK => At rfl rfl (by kernel_rfl) hc1_ (hK _ _ ?_)))
         exact ⟨⟨i + 1, by go_num, hlt, HN, hS⟩, by simp [intOf]; omega⟩
        ·by_cases h2 : zb < y
         ·have HN := Lib.hid (HST.out.1 (.inr ⟨h1, h2⟩))
          clear HST
          go_wp2_with (first
           | ((with_reducible refine qB ?_); refine qc ?_ ?_ <;> intro h_ <;> go_prune)
           | ((with_reducible refine qI ?_); refine qj hS Tryz.underlying32 ?_; intro b_ j_ hc0_ hc1_)
           | ((with_reducible refine qK ?_); first | refine BigFrame.wpList_want rfl fun _ hK => At rfl rfl (by kernel_rfl) hc0_ (hK _ _ ?_) | refine BigFrame.wpList_want rfl fun _ hK => At rfl rfl (by kernel_rfl) hc1_ (hK _ _ ?_)))
          exact ⟨⟨i + 1, by go_num, hlt, HN, hS⟩, by simp [intOf]; omega⟩
         ·have HE := Lib.hid (HST.out.2 (by rintro (h | h) <;> dsimp only at h <;> omega))
          clear HST
          go_wp2_with (first
           | ((with_reducible refine qB ?_); refine qc ?_ ?_ <;> intro h_ <;> go_prune)
           | ((with_reducible refine qI ?_); refine qj hS Tryz.underlying32 ?_; intro b_ j_ hc0_ hc1_)
           | ((with_reducible refine qK ?_); first | refine BigFrame.wpList_want rfl fun _ hK => At rfl rfl (by kernel_rfl) hc0_ (hK _ _ ?_) | refine BigFrame.wpList_want rfl fun _ hK => At rfl rfl (by kernel_rfl) hc1_ (hK _ _ ?_)))
          have hic : i <= c := by omega
          have hJ0 : AJ w0 [] K (BO L (x, y) i) (wr.drew, ⟨[], []⟩) := ⟨hS.drew, Nat.zero_le _⟩
          have hN0 := Jz CN wr.drew
          have hRr := @AR.refl w0 [] K (BO L (x, y) i)
          have hRt := @AR.trans w0 [] K (BO L (x, y) i)
          refine EN (AR w0 [] K (BO L (x, y) i)) (AN CN) (⟨[], []⟩) hRr hRt [.s (fun v w => Hg w.2 0 v) fun v w w' h hb => h.mono hb.2.1, .i (.slice A L.length c), .n ((i : Nat) : Int), .i (.slice A i c), .s (fun v w => Hg w.2 1 v) fun v w w' h hb => h.mono hb.2.1, .n ((x : Nat) : Int), .n ((y : Nat) : Int), .i (.agg #[.int .i64 ((x : Nat) : Int), .int .i64 ((y : Nat) : Int)]), .s (fun v w => (0, v) ∈ w.2.b) fun v w w' h hb => hb.2.2 _ h, .s (fun v w => Hg w.2 2 v) fun v w w' h hb => h.mono hb.2.1, .i (.slice A L.length c), .n ((i : Nat) : Int), .i (sliced A i L.length c 2), .s (fun v w => Hg w.2 3 v) fun v w w' h hb => h.mono hb.2.1, .s (fun v w => Hg w.2 3 v) fun v w w' h hb => h.mono hb.2.1, .n 0] ?_ ⟨?_, uM, uM, ?_, ?_, uM, uM, ?_, ?_, ?_, uM, uM, ?_, ?_, uA, uA, trivial⟩ ?_
          ·first | assumption | (intro i; (try dsimp only); split <;> first | trivial | assumption | (left; assumption))
          ·refine uG fun b__ w hW hN hE K hK => ?_
           exact Fk (kd := CN) (by decide) rfl rfl Tryz.underlying32 (by kernel_rfl) hN rfl rfl (show 0 < 4 by decide) hK
          ·refine uG fun b__ w hW hN hE K hK => ?_
           have e67 := hE 67
           have e68 := hE 68
           exact Ix rfl Tryz.underlying32 ⟨2, by kernel_rfl⟩ e67 e68 hic (hK _ _ rfl ⟨hRr _, fun _ _ h => h⟩)
          ·refine uG fun b__ w hW hN hE K hK => ?_
           have e66 := hE 66
           have e69 := hE 69
           exact Cg (kd := CN) (by decide) rfl rfl Cp hN e66 (hW.1 hJ0) (by rw [e69]; exact IO (kp _ _ (hW.1 hJ0).1.ro) hil) (fun u hu => BM L u (List.mem_of_mem_take hu)) rfl rfl (by simp [BO]; omega) (by simp [BO]; omega) (show 0 + 1 < 4 by decide) hK
          ·refine uG fun b__ w hW hN hE K hK => ?_
           have e71 := hE 71
           have e72 := hE 72
           exact CJ rfl (ps := [(0, .int .i64 ((x : Nat) : Int)), (1, .int .i64 ((y : Nat) : Int))]) (cells := #[.int .i64 ((x : Nat) : Int), .int .i64 ((y : Nat) : Int)]) (by simp [e71, e72]) (by kernel_rfl) (hK _ _ rfl ⟨hRr _, fun _ _ h => h⟩)
          ·refine uG fun b__ w hW hN hE K hK => ?_
           have e73 := hE 73
           exact Ga (kd := CN) (by decide) rfl rfl Tryz.underlying32 (ps := [(0, .agg #[.int .i64 ((x : Nat) : Int), .int .i64 ((y : Nat) : Int)])]) (cells := #[.int .i64 ((x : Nat) : Int), .int .i64 ((y : Nat) : Int)]) (by simp [e73]) (by kernel_rfl) (fun _ => rfl) rfl (by decide) hK
          ·refine uG fun b__ w hW hN hE K hK => ?_
           have e70 := hE 70
           have e74 := hE 74
           exact Cg (kd := CN) (by decide) rfl rfl Cp hN e70 (hW.1 hJ0) (Sl.of_own ((hW.1 hJ0).side e74)) (BM [(x, y)]) rfl rfl (by simp [BO]; omega) (by simp [BO]; omega) (show 1 + 1 < 4 by decide) hK
          ·refine uG fun b__ w hW hN hE K hK => ?_
           have e76 := hE 76
           have e77 := hE 77
           exact opw_sll rfl Tryz.underlying32 (by kernel_rfl) e76 e77 hil hc1 (hK _ _ rfl ⟨hRr _, fun _ _ h => h⟩)
          ·refine uG fun b__ w hW hN hE K hK => ?_
           have e75 := hE 75
           have e78 := hE 78
           exact Cg (kd := CN) (by decide) rfl rfl Cp hN e75 (hW.1 hJ0) (by rw [e78]; exact IP (kp _ _ (hW.1 hJ0).1.ro) hil) (fun u hu => BM L u (List.mem_of_mem_drop hu)) rfl rfl (by simp [BO]; omega) (by simp [BO]; omega) (show 2 + 1 < 4 by decide) hK
          ·intro vs wz hW hT
           obtain ⟨e66, e67, e68, e69, e70, e71, e72, e73, e74, e75, e76, e77, e78, e79, e6, e7, -⟩ := hT
           have bx : (fun _ : Nat => True) 0 := trivial
           simp only [AE, Act.put, zz, ze]
           have hJ := (hW.1 hJ0).last e6 rfl
           replace hJ : St w0 wz.1 [.own (vs 6) 151 2 (L.length + 1) (Ah (ins L (x, y)))] fun _ _ => True := by
            have e1 : 0 + i + 1 + (L.length - i) = L.length + 1 := by omega
            have e2 : [] ++ (Ah L).take (i * 2) ++ Ah [(x, y)] ++ (Ah L).drop (i * 2) = Ah (ins L (x, y)) := by
             rw [List.nil_append, DW, F9, <- CT, <- CT, ins, <- HE.out, List.append_assoc]; rfl
            simp only [BO] at hJ
            rw [e1, e2] at hJ
            exact hJ.mono (AK.pure True) fun _ _ _ => trivial
           rw [e7]
           generalize vs 6 = v6 at *
           generalize wz.1 = wf at *
           clear hW hJ0 hRr hRt e6 e7
           go_wp2_with fail
           all_goals
            go_ret2
            exact .inr ⟨x, y, rfl, rfl, hx1.out, hy1.out, hxy.out, .inr (.inr ⟨hm, HT.out, _, rfl, hJ⟩)⟩
        ·have HE := Lib.hid (HST.out.2 (by rintro (h | h) <;> dsimp only at h <;> omega))
         clear HST
         go_wp2_with (first
          | ((with_reducible refine qB ?_); refine qc ?_ ?_ <;> intro h_ <;> go_prune)
          | ((with_reducible refine qI ?_); refine qj hS Tryz.underlying32 ?_; intro b_ j_ hc0_ hc1_)
          | ((with_reducible refine qK ?_); first | refine BigFrame.wpList_want rfl fun _ hK => At rfl rfl (by kernel_rfl) hc0_ (hK _ _ ?_) | refine BigFrame.wpList_want rfl fun _ hK => At rfl rfl (by kernel_rfl) hc1_ (hK _ _ ?_)))
         have hic : i <= c := by omega
         have hJ0 : AJ w0 [] K (BO L (x, y) i) (wr.drew, ⟨[], []⟩) := ⟨hS.drew, Nat.zero_le _⟩
         have hN0 := Jz CN wr.drew
         have hRr := @AR.refl w0 [] K (BO L (x, y) i)
         have hRt := @AR.trans w0 [] K (BO L (x, y) i)
         refine EN (AR w0 [] K (BO L (x, y) i)) (AN CN) (⟨[], []⟩) hRr hRt [.s (fun v w => Hg w.2 0 v) fun v w w' h hb => h.mono hb.2.1, .i (.slice A L.length c), .n ((i : Nat) : Int), .i (.slice A i c), .s (fun v w => Hg w.2 1 v) fun v w w' h hb => h.mono hb.2.1, .n ((x : Nat) : Int), .n ((y : Nat) : Int), .i (.agg #[.int .i64 ((x : Nat) : Int), .int .i64 ((y : Nat) : Int)]), .s (fun v w => (0, v) ∈ w.2.b) fun v w w' h hb => hb.2.2 _ h, .s (fun v w => Hg w.2 2 v) fun v w w' h hb => h.mono hb.2.1, .i (.slice A L.length c), .n ((i : Nat) : Int), .i (sliced A i L.length c 2), .s (fun v w => Hg w.2 3 v) fun v w w' h hb => h.mono hb.2.1, .s (fun v w => Hg w.2 3 v) fun v w w' h hb => h.mono hb.2.1, .n 0] ?_ ⟨?_, uM, uM, ?_, ?_, uM, uM, ?_, ?_, ?_, uM, uM, ?_, ?_, uA, uA, trivial⟩ ?_
         ·first | assumption | (intro i; (try dsimp only); split <;> first | trivial | assumption | (left; assumption))
         ·refine uG fun b__ w hW hN hE K hK => ?_
          exact Fk (kd := CN) (by decide) rfl rfl Tryz.underlying32 (by kernel_rfl) hN rfl rfl (show 0 < 4 by decide) hK
         ·refine uG fun b__ w hW hN hE K hK => ?_
          have e67 := hE 67
          have e68 := hE 68
          exact Ix rfl Tryz.underlying32 ⟨2, by kernel_rfl⟩ e67 e68 hic (hK _ _ rfl ⟨hRr _, fun _ _ h => h⟩)
         ·refine uG fun b__ w hW hN hE K hK => ?_
          have e66 := hE 66
          have e69 := hE 69
          exact Cg (kd := CN) (by decide) rfl rfl Cp hN e66 (hW.1 hJ0) (by rw [e69]; exact IO (kp _ _ (hW.1 hJ0).1.ro) hil) (fun u hu => BM L u (List.mem_of_mem_take hu)) rfl rfl (by simp [BO]; omega) (by simp [BO]; omega) (show 0 + 1 < 4 by decide) hK
         ·refine uG fun b__ w hW hN hE K hK => ?_
          have e71 := hE 71
          have e72 := hE 72
          exact CJ rfl (ps := [(0, .int .i64 ((x : Nat) : Int)), (1, .int .i64 ((y : Nat) : Int))]) (cells := #[.int .i64 ((x : Nat) : Int), .int .i64 ((y : Nat) : Int)]) (by simp [e71, e72]) (by kernel_rfl) (hK _ _ rfl ⟨hRr _, fun _ _ h => h⟩)
         ·refine uG fun b__ w hW hN hE K hK => ?_
          have e73 := hE 73
          exact Ga (kd := CN) (by decide) rfl rfl Tryz.underlying32 (ps := [(0, .agg #[.int .i64 ((x : Nat) : Int), .int .i64 ((y : Nat) : Int)])]) (cells := #[.int .i64 ((x : Nat) : Int), .int .i64 ((y : Nat) : Int)]) (by simp [e73]) (by kernel_rfl) (fun _ => rfl) rfl (by decide) hK
         ·refine uG fun b__ w hW hN hE K hK => ?_
          have e70 := hE 70
          have e74 := hE 74
          exact Cg (kd := CN) (by decide) rfl rfl Cp hN e70 (hW.1 hJ0) (Sl.of_own ((hW.1 hJ0).side e74)) (BM [(x, y)]) rfl rfl (by simp [BO]; omega) (by simp [BO]; omega) (show 1 + 1 < 4 by decide) hK
         ·refine uG fun b__ w hW hN hE K hK => ?_
          have e76 := hE 76
          have e77 := hE 77
          exact opw_sll rfl Tryz.underlying32 (by kernel_rfl) e76 e77 hil hc1 (hK _ _ rfl ⟨hRr _, fun _ _ h => h⟩)
         ·refine uG fun b__ w hW hN hE K hK => ?_
          have e75 := hE 75
          have e78 := hE 78
          exact Cg (kd := CN) (by decide) rfl rfl Cp hN e75 (hW.1 hJ0) (by rw [e78]; exact IP (kp _ _ (hW.1 hJ0).1.ro) hil) (fun u hu => BM L u (List.mem_of_mem_drop hu)) rfl rfl (by simp [BO]; omega) (by simp [BO]; omega) (show 2 + 1 < 4 by decide) hK
         ·intro vs wz hW hT
          obtain ⟨e66, e67, e68, e69, e70, e71, e72, e73, e74, e75, e76, e77, e78, e79, e6, e7, -⟩ := hT
          have bx : (fun _ : Nat => True) 0 := trivial
          simp only [AE, Act.put, zz, ze]
          have hJ := (hW.1 hJ0).last e6 rfl
          replace hJ : St w0 wz.1 [.own (vs 6) 151 2 (L.length + 1) (Ah (ins L (x, y)))] fun _ _ => True := by
           have e1 : 0 + i + 1 + (L.length - i) = L.length + 1 := by omega
           have e2 : [] ++ (Ah L).take (i * 2) ++ Ah [(x, y)] ++ (Ah L).drop (i * 2) = Ah (ins L (x, y)) := by
            rw [List.nil_append, DW, F9, <- CT, <- CT, ins, <- HE.out, List.append_assoc]; rfl
           simp only [BO] at hJ
           rw [e1, e2] at hJ
           exact hJ.mono (AK.pure True) fun _ _ _ => trivial
          rw [e7]
          generalize vs 6 = v6 at *
          generalize wz.1 = wf at *
          clear hW hJ0 hRr hRt e6 e7
          go_wp2_with fail
          all_goals
           go_ret2
           exact .inr ⟨x, y, rfl, rfl, hx1.out, hy1.out, hxy.out, .inr (.inr ⟨hm, HT.out, _, rfl, hJ⟩)⟩
       ·have HE : Hid (i = Db L (x, y)) := Lib.hid (Nat.le_antisymm HIA.out (by have := insAt_le L (x, y); omega))
        go_wp2_with (first | ((with_reducible refine qB ?_); refine qc ?_ ?_ <;> intro h_ <;> go_prune))
        have hic : i <= c := by omega
        have hJ0 : AJ w0 [] K (BO L (x, y) i) (wr.drew, ⟨[], []⟩) := ⟨hS.drew, Nat.zero_le _⟩
        have hN0 := Jz CN wr.drew
        have hRr := @AR.refl w0 [] K (BO L (x, y) i)
        have hRt := @AR.trans w0 [] K (BO L (x, y) i)
        refine EN (AR w0 [] K (BO L (x, y) i)) (AN CN) (⟨[], []⟩) hRr hRt [.s (fun v w => Hg w.2 0 v) fun v w w' h hb => h.mono hb.2.1, .i (.slice A L.length c), .n ((i : Nat) : Int), .i (.slice A i c), .s (fun v w => Hg w.2 1 v) fun v w w' h hb => h.mono hb.2.1, .n ((x : Nat) : Int), .n ((y : Nat) : Int), .i (.agg #[.int .i64 ((x : Nat) : Int), .int .i64 ((y : Nat) : Int)]), .s (fun v w => (0, v) ∈ w.2.b) fun v w w' h hb => hb.2.2 _ h, .s (fun v w => Hg w.2 2 v) fun v w w' h hb => h.mono hb.2.1, .i (.slice A L.length c), .n ((i : Nat) : Int), .i (sliced A i L.length c 2), .s (fun v w => Hg w.2 3 v) fun v w w' h hb => h.mono hb.2.1, .s (fun v w => Hg w.2 3 v) fun v w w' h hb => h.mono hb.2.1, .n 0] ?_ ⟨?_, uM, uM, ?_, ?_, uM, uM, ?_, ?_, ?_, uM, uM, ?_, ?_, uA, uA, trivial⟩ ?_
        ·first | assumption | (intro i; (try dsimp only); split <;> first | trivial | assumption | (left; assumption))
        ·refine uG fun b__ w hW hN hE K hK => ?_
         exact Fk (kd := CN) (by decide) rfl rfl Tryz.underlying32 (by kernel_rfl) hN rfl rfl (show 0 < 4 by decide) hK
        ·refine uG fun b__ w hW hN hE K hK => ?_
         have e67 := hE 67
         have e68 := hE 68
         exact Ix rfl Tryz.underlying32 ⟨2, by kernel_rfl⟩ e67 e68 hic (hK _ _ rfl ⟨hRr _, fun _ _ h => h⟩)
        ·refine uG fun b__ w hW hN hE K hK => ?_
         have e66 := hE 66
         have e69 := hE 69
         exact Cg (kd := CN) (by decide) rfl rfl Cp hN e66 (hW.1 hJ0) (by rw [e69]; exact IO (kp _ _ (hW.1 hJ0).1.ro) hil) (fun u hu => BM L u (List.mem_of_mem_take hu)) rfl rfl (by simp [BO]; omega) (by simp [BO]; omega) (show 0 + 1 < 4 by decide) hK
        ·refine uG fun b__ w hW hN hE K hK => ?_
         have e71 := hE 71
         have e72 := hE 72
         exact CJ rfl (ps := [(0, .int .i64 ((x : Nat) : Int)), (1, .int .i64 ((y : Nat) : Int))]) (cells := #[.int .i64 ((x : Nat) : Int), .int .i64 ((y : Nat) : Int)]) (by simp [e71, e72]) (by kernel_rfl) (hK _ _ rfl ⟨hRr _, fun _ _ h => h⟩)
        ·refine uG fun b__ w hW hN hE K hK => ?_
         have e73 := hE 73
         exact Ga (kd := CN) (by decide) rfl rfl Tryz.underlying32 (ps := [(0, .agg #[.int .i64 ((x : Nat) : Int), .int .i64 ((y : Nat) : Int)])]) (cells := #[.int .i64 ((x : Nat) : Int), .int .i64 ((y : Nat) : Int)]) (by simp [e73]) (by kernel_rfl) (fun _ => rfl) rfl (by decide) hK
        ·refine uG fun b__ w hW hN hE K hK => ?_
         have e70 := hE 70
         have e74 := hE 74
         exact Cg (kd := CN) (by decide) rfl rfl Cp hN e70 (hW.1 hJ0) (Sl.of_own ((hW.1 hJ0).side e74)) (BM [(x, y)]) rfl rfl (by simp [BO]; omega) (by simp [BO]; omega) (show 1 + 1 < 4 by decide) hK
        ·refine uG fun b__ w hW hN hE K hK => ?_
         have e76 := hE 76
         have e77 := hE 77
         exact opw_sll rfl Tryz.underlying32 (by kernel_rfl) e76 e77 hil hc1 (hK _ _ rfl ⟨hRr _, fun _ _ h => h⟩)
        ·refine uG fun b__ w hW hN hE K hK => ?_
         have e75 := hE 75
         have e78 := hE 78
         exact Cg (kd := CN) (by decide) rfl rfl Cp hN e75 (hW.1 hJ0) (by rw [e78]; exact IP (kp _ _ (hW.1 hJ0).1.ro) hil) (fun u hu => BM L u (List.mem_of_mem_drop hu)) rfl rfl (by simp [BO]; omega) (by simp [BO]; omega) (show 2 + 1 < 4 by decide) hK
        ·intro vs wz hW hT
         obtain ⟨e66, e67, e68, e69, e70, e71, e72, e73, e74, e75, e76, e77, e78, e79, e6, e7, -⟩ := hT
         have bx : (fun _ : Nat => True) 0 := trivial
         simp only [AE, Act.put, zz, ze]
         have hJ := (hW.1 hJ0).last e6 rfl
         replace hJ : St w0 wz.1 [.own (vs 6) 151 2 (L.length + 1) (Ah (ins L (x, y)))] fun _ _ => True := by
          have e1 : 0 + i + 1 + (L.length - i) = L.length + 1 := by omega
          have e2 : [] ++ (Ah L).take (i * 2) ++ Ah [(x, y)] ++ (Ah L).drop (i * 2) = Ah (ins L (x, y)) := by
           rw [List.nil_append, DW, F9, <- CT, <- CT, ins, <- HE.out, List.append_assoc]; rfl
          simp only [BO] at hJ
          rw [e1, e2] at hJ
          exact hJ.mono (AK.pure True) fun _ _ _ => trivial
         rw [e7]
         generalize vs 6 = v6 at *
         generalize wz.1 = wf at *
         clear hW hJ0 hRr hRt e6 e7
         go_wp2_with fail
         all_goals
          go_ret2
          exact .inr ⟨x, y, rfl, rfl, hx1.out, hy1.out, hxy.out, .inr (.inr ⟨hm, HT.out, _, rfl, hJ⟩)⟩
  ·have HRB := Lib.hid (decide_eq_false hrb)
   have HNO : Hid (¬ twoR a b) := Lib.hid fun h => hrb h.2.1
   go_enter Tryz.func90, Tryz.ntmps90
   go_wp2_with (first
    | ((with_reducible refine qB ?_); refine qc ?_ ?_ <;> intro h_ <;> go_prune)
    | (go_at_call 127; refine (Cr _ _).mono ?_; (first | rw [HRA.out] | rw [HRB.out]); rintro r_ w_ ⟨_, rfl, rfl, hb_⟩; replace hS := hS.ext hb_; clear hb_))
   go_ret2
   exact .inl ⟨HNO.out, rfl, hS.below⟩
 ·have HRA := Lib.hid (decide_eq_false hra)
  have HRB := HRA
  have HNO : Hid (¬ twoR a b) := Lib.hid fun h => hra h.1
  go_enter Tryz.func90, Tryz.ntmps90
  go_wp2_with (first
   | ((with_reducible refine qB ?_); refine qc ?_ ?_ <;> intro h_ <;> go_prune)
   | (go_at_call 127; refine (Cr _ _).mono ?_; (first | rw [HRA.out] | rw [HRB.out]); rintro r_ w_ ⟨_, rfl, rfl, hb_⟩; replace hS := hS.ext hb_; clear hb_))
  go_ret2
  exact .inl ⟨HNO.out, rfl, hS.below⟩
end
section
open Go.RowKit
attribute [local go_sem ↓] Go.wp_at_zero Go.wp_at_succ
set_option maxRecDepth 20000
set_option exponentiation.threshold 5000
noncomputable def closPre (L : List (Nat × Nat)) (pre : List Int) : Nat := pre.foldl (fun m x => m ||| junR L x) 0
theorem closPre_snoc (L : List (Nat × Nat)) (pre : List Int) (x : Int) : closPre L (pre ++ [x]) = closPre L pre ||| junR L x := by
 unfold closPre; rw [List.foldl_append]; rfl
theorem Hq (f : Int -> Nat) (i : Nat) : ∀ (l : List Int) (m : Nat), (l.foldl (fun m x => m ||| f x) m).testBit i = true ↔ m.testBit i = true \/ ∃ x ∈ l, (f x).testBit i = true
 | [], m => by simp
 | x :: l, m => by
  rw [List.foldl_cons, Hq f i l, DT]
  constructor
  ·rintro ((h | h) | ⟨y, h1, h2⟩)
   ·exact .inl h
   ·exact .inr ⟨x, List.mem_cons_self .., h⟩
   ·exact .inr ⟨y, List.mem_cons_of_mem _ h1, h2⟩
  ·rintro (h | ⟨y, h1, h2⟩)
   ·exact .inl (.inl h)
   ·rcases List.mem_cons.1 h1 with rfl | h1
    ·exact .inl (.inr h2)
    ·exact .inr ⟨y, h1, h2⟩
theorem closPre_full {L : List (Nat × Nat)} {ws : List Nat} (hw : Ba ws) : closPre L (BU ws) = closM L (Bp ws) := Bf fun i => by
 unfold closPre closM
 rw [Hq, Fv, Nat.zero_testBit]
 constructor
 ·rintro (h | ⟨x, h1, h2⟩)
  ·cases h
  ·obtain ⟨k, rfl⟩ := GU h1
   have h3 := (DN hw).1 h1
   unfold junR at h2
   split at h2
   ·rename_i h4
    exact ⟨k, by omega, by omega, h3, by simpa using h2⟩
   ·rw [Nat.zero_testBit] at h2; cases h2
 ·rintro ⟨r, h1, h2, h3, h4⟩
  refine .inr ⟨(r : Int), (DN hw).2 h3, ?_⟩
  rw [junR, if_pos (by omega), Int.toNat_natCast]
  exact h4
set_option maxHeartbeats 2000000 in
theorem Eo {w0 : World} {D E : Nat -> Prop} {p v : Value} {L : List (Nat × Nat)} {N : Nat} (h : IsH w0 D p L) (hT : Bx w0) (hH : Hf L) (hv : A6 w0 E v N) : Calls Tryz.prog 36 #[p, v] w0 (AM (fun x w' => A6 w' (w0.heap.size <= ·) x (closM L N)) w0) := by
 obtain ⟨q, o, rfl, hX⟩ := h
 obtain ⟨A, c, l, rfl, hl, rfl, _, _, hs⟩ := hv.parts
 obtain ⟨K, k1, ko, kt, hS⟩ : ∃ K : (Nat -> Prop) -> World -> Prop, (∀ D w, K D w -> A6 w D (.agg #[.slice A l.length c]) (Bp l)) /\ (∀ D w, K D w -> FZ q o L D w) /\ (∀ D w, K D w -> Bx w /\ D 0) /\ St w0 w0 [] K :=
  ⟨fun D w => (A6 w D (.agg #[.slice A l.length c]) (Bp l) /\ FZ q o L D w) /\ Bx w /\ D 0, fun _ _ h => h.1.1, fun _ _ h => h.1.2, fun _ _ h => h.2, St.start (D := fun _ => True) ((A5.and CG).and C5) ⟨⟨hv.imp fun _ _ _ => trivial, CG D _ w0 w0 hX (Nat.le_refl _) (fun _ _ _ _ h => h) fun _ _ _ _ => trivial⟩, hT, trivial⟩⟩
 have HH := Lib.hid hH
 clear hs hv hT hX hH
 refine (callsIn_wide (n := 6)).1 (callsIn_of_wp_marks Tryz.func36 rfl trivial ?_ rfl)
 simp only [Tryz.ntmps36, List.size_toArray, List.length_cons, List.length_nil, Nat.reduceAdd, Nat.reduceSub, Array.replicate_succ, Array.replicate_zero, List.push_toArray, List.append_toArray, List.nil_append, List.cons_append]
 refine wpIn_wide.2 ?_
 go_wp2_with (first
  | ((with_reducible refine qA 2 ?_); refine AA hS rfl _ _ rfl (.pointer (some ⟨q, 0, none⟩)) _ rfl rfl ?_; clear hS; intro g2 w_ hS; (try simp only [Act.put, Act.eval, zz, Value.cells] at hS))
  | ((with_reducible refine qA 3 ?_); refine AA hS rfl _ _ rfl (.agg #[.slice A l.length c]) _ rfl rfl ?_; clear hS; intro g3 w_ hS; (try simp only [Act.put, Act.eval, zz, Value.cells] at hS))
  | ((with_reducible refine qA 4 ?_); refine qa hS #[.slice none 0 0] ?_; clear hS; intro g4 w_ hS)
  | ((with_reducible refine qA 5 ?_); refine qa hS #[.slice none 0 0] ?_; clear hS; intro g5 w_ hS)
  | ((with_reducible refine qK ?_); refine qL hS Tryz.underlying27 ?_))
 refine (Gw _ _ _ _ (k1 _ _ hS.ro)).mono ?_
 rintro e w3 ⟨_, rfl, ⟨Bs, A', cap, ws, rfl, e1, hcn, hvN, hsl, hBs, hX⟩, hb3⟩
 obtain rfl := H5 hcn hl hvN
 obtain ⟨rfl, rfl⟩ : A = A' /\ c = cap := by simpa using e1
 clear e1 hvN
 obtain ⟨hT, hT0⟩ := kt _ _ hS.ro
 replace hS := hS.good hb3 hsl hT hT0 hBs hX
 obtain ⟨KK, ko, kG, KKS, hS⟩ : ∃ KK : (Nat -> Prop) -> World -> Prop, (∀ D w, KK D w -> FZ q o L D w) /\ (∀ D w, KK D w -> He Bs A c ws w) /\ AK KK /\ St w0 w3 [.box g5 27 #[.slice none 0 0], .box g4 27 #[.slice none 0 0], .box g3 27 #[.slice A ws.length c], .box g2 24 #[.pointer (some ⟨q, 0, none⟩)]] KK := ⟨_, fun D w h => ko D w h.1, fun D w h => h.2.1, hS.stable, hS⟩
 have HCN := Lib.hid hcn
 have HCF := Lib.hid (closPre_full (L := L) hcn.1)
 clear hsl hX hT hT0 hb3 kt k1 hcn hl
 go_wp2_with fail
 have hsz := hS.size
 refine (wpIn_wide (n := 6)).1 ?_
 refine Gg fun act hact => ?_
 refine EB hS HCN.out.1 HCN.out.2.2 kG (by rw [hact]; rfl) rfl
  (fun pre F' K' => ∃ u, F' = [.box g5 27 #[u], .box g4 27 #[.slice none 0 0], .box g3 27 #[.slice A ws.length c], .box g2 24 #[.pointer (some ⟨q, 0, none⟩)]] /\ AK K' /\ ∀ D w, K' D w -> KK D w /\ A6 w (fun z => D z /\ w0.heap.size <= z) (.agg #[u]) (closPre L pre))
  (fun _ _ _ _ => False) (fun s F K' h D w hk => by obtain ⟨_, _, _, h4⟩ := h; exact (h4 D w hk).1) ?hr (fun _ _ _ _ h => h.elim) ⟨_, rfl, KKS, fun D w h => ⟨h, A6.empty⟩⟩
  (fun x => { tmps := (act.tmps.setIfInBounds 9 (.int .i64 x)).setIfInBounds 6 (.int .i64 x), defers := [] }) ?assign ?body ?done (fun _ _ _ _ _ _ _ _ h _ _ => h.elim)
 case hr =>
  rintro s F K' ⟨u, rfl, _⟩ f hf
  simp only [List.mem_cons, List.not_mem_nil, or_false] at hf
  rcases hf with rfl | rfl | rfl | rfl <;> exact .inl rfl
 case assign =>
  intro l x W K hK
  subst hact
  rw [It]
  refine wpIn_region_lit ?_
  refine FC (by intro _ _ h; exact h) _ _ _ (by rfl) _ _ ?_
  refine wpList_plain rfl fun _ hK' => CC (v := .int .i64 x) rfl (by rfl) (hK' _ _ ?_)
  exact wpList_nil hK
 case body =>
  rintro l pre x hx W F' Xo K' ⟨ub, rfl, hKs, hk'⟩ hS hlt
  subst hact
  have HW := Lib.hid (closPre_snoc L pre x)
  generalize closPre L pre = N0 at *
  have HKP := Lib.hid hk'
  have hWs : W.heap.size <= W.heap.size := Nat.le_refl _
  clear hx hk'
  simp only [Act.put, List.setIfInBounds_toArray, List.set_cons_zero, List.set_cons_succ]
  refine wpIn_block ?_
  refine D5 (by kernel_rfl) (by intro _ _ h; exact h) (by rfl) ?_
  refine Jt 5 [] [.i (.agg #[ub]), .q q 0, .n x, .s (fun v w => A6 w (fun _ => True) v (junR L x)) fun v w w' h hb => h.ext hb, .s (fun v w => ∃ u, v = .agg #[u] /\ u.oneCell' = true /\ A6 w (fun z => W.heap.size <= z) (.agg #[u]) (N0 ||| junR L x)) fun v w w' h hb => ⟨_, h.choose_spec.1, h.choose_spec.2.1, h.choose_spec.2.2.ext hb⟩, .t] ⟨uR (h := fun w hW hN => (hS.ext hW).box 0 rfl), uC (h := fun w hW hN => ((hS.ext hW).box 3 rfl).cell 0), uM, ?_, ?_, trivial⟩ ?_
  ·refine uT fun b__ w hW hE K hK => ?_
   have e11 := hE 11
   have e12 := hE 12
   refine AC rfl (by kernel_rfl) (by simp only [List.map_cons, List.map_nil, e11, e12]) (hjun_any (w0 := w) ⟨q, o, rfl, ko _ _ (HKP.out _ _ (hS.ext hW).ro.1).1⟩ HH.out x) fun v w' h hb => ?_
   exact hK v w' (h.imp fun _ _ _ => trivial) hb
  ·refine uT fun b__ w hW hE K hK => ?_
   have e10 := hE 10
   have e13 := hE 13
   refine AC rfl (by kernel_rfl) (by simp only [List.map_cons, List.map_nil, e10]) (Fb (.agg #[ub]) _ N0 _ w _ _ (HKP.out _ _ (hS.ext hW).ro.1).2 e13) fun v w' h hb => ?_
   obtain ⟨u, rfl, h1⟩ := BC h
   exact hK _ w' ⟨u, rfl, h1, h.imp fun z hz _ => Nat.le_trans hW.size hz⟩ hb
  ·intro vs wz hW hT
   obtain ⟨e10, e11, e12, e13, e14, -⟩ := hT
   have bx : (fun _ : Nat => True) 0 := trivial
   simp only [AE, Act.put, zz, ze]
   (intro o_ ho_; simp only [List.getElem?_toArray, List.getElem?_cons_succ, List.getElem?_cons_zero, Option.some.injEq] at ho_; subst ho_)
   obtain ⟨un, e14, hu1, hun⟩ := e14
   have hsW := hS.size
   have hS1 := hS.ret hW (AP (A5 (v := .agg #[un]) (N := N0 ||| junR L x)) fun z => w0.heap.size <= z) (hun.imp fun z hz _ => ⟨hz, Nat.le_trans hsW hz⟩)
   refine BT rfl rfl e14 (hS1.box 0 rfl) (by kernel_rfl) rfl (by simpa using hu1) fun w4 h1 hU => ?_
   have hS2 := (hS1.upd 0 rfl (.box g5 27 #[un]) (Bg hU) ⟨(hS1.holds (.box g5 27 #[ub]) (by simp)).1, h1⟩ fun _ e => .inl e)
   refine ⟨_, _, ⟨un, rfl, hS2.stable, fun D w h => ⟨(HKP.out D w h.1.1).1, by rw [HW.out]; exact h.2⟩⟩, by rw [hU.size]; exact hW.size, hS2⟩
 case done =>
  rintro D W F' K' hD ⟨u, rfl, hKs, hk'⟩ hS hK
  subst hact
  obtain ⟨A3, c3, l3, he, -⟩ := ((hk' _ _ hS.ro).2).parts
  obtain rfl : u = .slice A3 l3.length c3 := by injection he with he; simpa using he
  clear he
  have hM := hS.mark hsz hD (by
   intro f hf
   simp only [List.mem_cons, List.not_mem_nil, or_false] at hf
   rcases hf with rfl | rfl | rfl | rfl <;> exact .inl rfl) hK rfl
  have HKP := Lib.hid hk'
  clear hk' hS hK
  have hS := hM
  clear hM
  simp only [List.cons_append, List.nil_append] at hS
  go_wp2_with (first
   | ((with_reducible refine qK ?_); refine qL hS Tryz.underlying27 ?_)
   | ((with_reducible refine qM ?_); (first | refine qS hS ?_ | refine qT hS ?_); clear hS; intro w_ hS; (try simp only [Act.put, Act.eval, zz, Value.cells] at hS)))
  refine C4 (F := [.box g5 27 #[.slice A3 l3.length c3], .box g4 27 #[.slice A3 l3.length c3], .box g3 27 #[.slice A ws.length c], .box g2 24 #[.pointer (some ⟨q, 0, none⟩)]]) ?_ [D] _ hS
  intro w' h
  refine ⟨_, results_cell_row rfl _ _ g4 27 _ (0, 0) _ rfl (h.box 1 rfl) Tryz.underlying27 rfl (by kernel_rfl), ?_⟩
  exact AM.mk (by rw [<- HCF.out]; exact (HKP.out _ _ h.ro).2.imp fun z hz _ => hz.2) h.below
end
section
open Go.RowKit
attribute [local go_sem ↓] Go.wp_at_zero Go.wp_at_succ
set_option maxRecDepth 20000
def Bd (l : List (Nat × Nat)) : List Value := l.flatMap fun z => [.int .u64 (z.1 : Nat), .int .u64 (z.2 : Nat)]
theorem rcells_at (l : List (Nat × Nat)) (k : Nat) (h : k < l.length) : (Bd l)[k * 2]? = some (.int .u64 ((l.getD k (0, 0)).1 : Nat)) /\ (Bd l)[k * 2 + 1]? = some (.int .u64 ((l.getD k (0, 0)).2 : Nat)) := by
 induction l generalizing k with
 | nil => simp at h
 | cons z r ih =>
  cases k with
  | zero => simp [Bd]
  | succ k =>
   have := ih k (by simpa using h)
   rw [show (k + 1) * 2 = k * 2 + 2 by omega]
   simpa [Bd] using this
theorem FR (a b : List (Nat × Nat)) : Bd (a ++ b) = Bd a ++ Bd b := by simp [Bd]
def CL (w : World) (D : Nat -> Prop) (v : Value) (l : List (Nat × Nat)) : Prop := Sl w D 2 v l.length (Bd l)
theorem CL.keep {w w' : World} {D : Nat -> Prop} {v : Value} {l : List (Nat × Nat)} (h : CL w D v l) (hsz : w.heap.size <= w'.heap.size) (hk : ∀ p : Addr, D p.block -> p.block < w.heap.size -> w'.cell? p = w.cell? p) : CL w' D v l := Sl.keep h hsz hk
theorem CL.ext {w w' : World} {D : Nat -> Prop} {v : Value} {l : List (Nat × Nat)} (h : CL w D v l) (hb : Below w.heap.size w w') : CL w' D v l := h.keep hb.size fun _ _ hp => hb.cell hp
theorem CL.shape {w : World} {D : Nat -> Prop} {v : Value} {l : List (Nat × Nat)} (h : CL w D v l) : ∃ A c, v = .slice A l.length c /\ l.length <= c /\ c <= 9223372036854775807 := Sl.shape h
theorem CL.at_ {w : World} {D : Nat -> Prop} {A : Option Addr} {c : Nat} {l : List (Nat × Nat)} (h : CL w D (.slice A l.length c) l) {k : Nat} (hk : k < l.length) :
  ∃ b o, A = some ⟨b, o, none⟩ /\ D b /\ b < w.heap.size /\ w.cell? ⟨b, o + k * 2, none⟩ = some (.int .u64 ((l.getD k (0, 0)).1 : Nat)) /\ w.cell? ⟨b, o + k * 2 + 1, none⟩ = some (.int .u64 ((l.getD k (0, 0)).2 : Nat)) := by
 obtain ⟨_, A', c', h1, _, _, h2⟩ := h
 obtain ⟨b, o, h3, h4, h6, h5⟩ := h2 (by omega)
 injection h1 with h1
 obtain ⟨g1, g2⟩ := rcells_at l k hk
 exact ⟨b, o, h1.trans h3, h4, h6, h5 _ _ g1, by have := h5 _ _ g2; rw [<- Nat.add_assoc] at this; exact this⟩
def Ax (w : World) (D : Nat -> Prop) (xs : List Value) (l : List (Nat × Nat)) : Prop :=
 ∀ i y n, l[i]? = some (y, n) -> ∃ a b, xs[i * 2]? = some a /\ xs[i * 2 + 1]? = some b /\ A6 w D (.agg #[a]) y /\ A6 w D (.agg #[b]) n
theorem Ax.keep {w w' : World} {D : Nat -> Prop} {xs : List Value} {l : List (Nat × Nat)} (h : Ax w D xs l) (hsz : w.heap.size <= w'.heap.size) (hk : ∀ p : Addr, D p.block -> p.block < w.heap.size -> w'.cell? p = w.cell? p) : Ax w' D xs l := fun i y n hi => by
 obtain ⟨a, b, h1, h2, h3, h4⟩ := h i y n hi
 exact ⟨a, b, h1, h2, h3.keep hsz hk, h4.keep hsz hk⟩
theorem Ax.imp {w : World} {D D' : Nat -> Prop} {xs : List Value} {l : List (Nat × Nat)} (h : Ax w D xs l) (hD : ∀ b, D b -> b < w.heap.size -> D' b) : Ax w D' xs l := fun i y n hi => by
 obtain ⟨a, b, h1, h2, h3, h4⟩ := h i y n hi
 exact ⟨a, b, h1, h2, h3.imp hD, h4.imp hD⟩
theorem Ax.ext {w w' : World} {D : Nat -> Prop} {xs : List Value} {l : List (Nat × Nat)} (h : Ax w D xs l) (hb : Below w.heap.size w w') : Ax w' D xs l := h.keep hb.size fun _ _ hp => hb.cell hp
theorem Ax.app {w w' : World} {base : Nat} {v0 v1 : Value} {xs : List Value} {l : List (Nat × Nat)} (h : Ax w (G7 base v0) xs l) (hg : w.grownBy w' v0.ownBlock) (hat : ∀ k, v1.ownBlock = some k -> v0.ownBlock = some k \/ w.heap.size <= k) : Ax w' (G7 base v1) xs l :=
 ((h.imp (D' := fun b => (base <= b /\ v0.ownBlock ≠ some b) /\ b < w.heap.size) fun _ h1 h2 => ⟨h1, h2⟩).keep hg.size fun _ h1 h2 => Jg hg h2 h1.1.2).imp fun b h1 _ => ⟨h1.1.1, fun e => by
  rcases hat b e with h | h
  ·exact h1.1.2 h
  ·have := h1.2; omega⟩
theorem Ax.nil {w : World} {D : Nat -> Prop} : Ax w D [] [] := fun i y n h => by simp at h
theorem Ax.push {w : World} {D : Nat -> Prop} {xs : List Value} {l : List (Nat × Nat)} {a b : Value} {y n : Nat} (h : Ax w D xs l) (hl : xs.length = l.length * 2) (ha : A6 w D (.agg #[a]) y) (hb : A6 w D (.agg #[b]) n) : Ax w D (xs ++ [a, b]) (l ++ [(y, n)]) := fun i y' n' hi => by
 rcases Nat.lt_or_ge i l.length with hlt | hge
 ·rw [List.getElem?_append_left hlt] at hi
  obtain ⟨a', b', h1, h2, h3, h4⟩ := h i y' n' hi
  exact ⟨a', b', by rw [List.getElem?_append_left (by omega)]; exact h1, by rw [List.getElem?_append_left (by omega)]; exact h2, h3, h4⟩
 ·have hi2 : i = l.length := by
   have := (List.getElem?_eq_some_iff.1 hi).1
   simp at this; omega
  subst hi2
  simp at hi
  obtain ⟨rfl, rfl⟩ := hi
  exact ⟨a, b, by rw [List.getElem?_append_right (by omega), hl]; simp, by rw [List.getElem?_append_right (by omega), show l.length * 2 + 1 - xs.length = 1 by omega]; rfl, ha, hb⟩
theorem Ax.cubes {w : World} {base : Nat} {v : Value} {xs : List Value} {l : List (Nat × Nat)} {e : TypeId} {D : Nat -> Prop} (h : Ax w D xs l) (ho : w.ownsRow base e 2 v l.length xs) (hD : ∀ b, base <= b -> D b) : AB w D v l := ⟨xs, (Sl.of_own ho).imp fun b h1 _ => hD b h1, h⟩
theorem EW : Bz Tryz.prog 29 54 2 48 := ⟨Tryz.underlying29, by kernel_rfl⟩
theorem Hr {α : Type} (l : List α) (k : Nat) (d : α) (h : k < l.length) : l.take (k + 1) = l.take k ++ [l.getD k d] := by
 rw [List.take_succ_eq_append_getElem h, List.getD_eq_getElem?_getD, List.getElem?_eq_getElem h]; rfl
def Small (l : List (Nat × Nat)) : Prop := ∀ z ∈ l, z.1 < BK /\ z.2 < BK
theorem Small.at_ {l : List (Nat × Nat)} (h : Small l) (k : Nat) (hk : k < l.length) : (l.getD k (0, 0)).1 < BK /\ (l.getD k (0, 0)).2 < BK := h _ (by rw [List.getD_eq_getElem?_getD, List.getElem?_eq_getElem hk]; exact List.getElem_mem hk)
theorem Ie (v : Value) (l : List (Nat × Nat)) (w : World) (D : Nat -> Prop) (hv : CL w D v l) (hl : Small l) (hn : l.length <= 1000000) :
  Calls Tryz.prog 93 #[v] w (AM (fun x w' => AB w' (w.heap.size <= ·) x l) w) := by
 obtain ⟨A, c, rfl, _, _⟩ := hv.shape
 have HL := Lib.hid hl
 clear hl
 go_enter Tryz.func93, Tryz.ntmps93
 go_wp2
 go_loopw [3, 8] (fun u i wr => ∃ k : Nat, k <= l.length /\ i = .int .i64 k /\ Below w.heap.size w wr /\ ∃ xs, wr.ownsRow w.heap.size 54 2 u k xs /\ Ax wr (G7 w.heap.size u) xs (l.take k) /\ ∀ b, u.ownBlock = some b -> w.heap.size <= b) (fun _ i _ => l.length - (intOf i).toNat)
 case atStart => exact ⟨0, by omega, rfl, Below.refl _ _, [], World.ownsRow_nil _ _ _ _, Ax.nil, by simp [Value.ownBlock]⟩
 case round =>
  obtain ⟨k, hk, rfl, hB, xs, hown, hC, hge⟩ := hrel
  have HO := Lib.hid hown
  have HG := Lib.hid hge
  clear hown hge
  by_cases hlt : k < l.length
  ·obtain ⟨b, o, rfl, _, hb, hc0, hc1⟩ := (hv.ext hB).at_ hlt
   have hs := HL.out.at_ k hlt
   have HT := Lib.hid (Hr l k (0, 0) hlt)
   have hsz := hB.size
   generalize (l.getD k (0, 0)) = z at *
   obtain ⟨y, n⟩ := z
   go_wp2_with fail
   refine (lmake_any y n hs.1 hs.2 _).mono ?_
   rintro e w2 ⟨v2, rfl, ⟨a2, b2, rfl, ha, hb⟩, hb2⟩
   obtain ⟨A2, m2, c2, rfl⟩ := ha.shape
   obtain ⟨A3, m3, c3, rfl⟩ := hb.shape
   replace hb2 := bel_al hb2
   have hC2 := hC.ext hb2
   have HO2 := Lib.hid (Iw HO.out hb2)
   have hB2 := C1 hB hb2
   have hsz2 := hB2.size
   have hs2 := hb2.size
   have ha2 := ha.imp (D' := G7 w.heap.size u3) fun b h1 _ => ⟨by simp at h1; omega, fun e => by have := (own_lt HO.out b e); simp at h1; omega⟩
   have hb3 := hb.imp (D' := G7 w.heap.size u3) fun b h1 _ => ⟨by simp at h1; omega, fun e => by have := (own_lt HO.out b e); simp at h1; omega⟩
   clear hb2 hC ha hb hB
   go_wp2_with ((with_reducible refine qA 15 ?_); refine DF rfl rfl _ _ _ _ rfl rfl EW w.heap.size _ k xs (.agg #[.slice A2 m2 c2, .slice A3 m3 c3]) #[.slice A2 m2 c2, .slice A3 m3 c3] rfl (by kernel_rfl) rfl rfl rfl HO2.out (by intro u hu; simp at hu; rcases hu with rfl | rfl <;> rfl) (by omega) (by omega) hsz2 ?_; intro v' w3 ho hg hat; have HO3 := Lib.hid ho; have HG3 := Lib.hid hg; have HA := Lib.hid hat; clear ho hg hat)
   refine ⟨⟨k + 1, hlt, by go_num, Ii HG3.out hB2 hsz2 HG.out, _, HO3.out, ?_, fun b h => by rcases HA.out b h with h | h; exact HG.out b h; omega⟩, by simp [intOf]; omega⟩
   rw [HT.out]
   exact (hC2.app HG3.out HA.out).push (by rw [HO2.out.1]; simp; omega) (ha2.app HG3.out HA.out) (hb3.app HG3.out HA.out)
  ·obtain rfl : k = l.length := by omega
   rw [List.take_length] at hC
   go_wp2_with fail
   go_ret
   exact AM.mk ((hC.imp fun b h1 _ => h1.1).cubes HO.out fun b h => h) hB
end
section
open Go.RowKit
attribute [local go_sem ↓] Go.wp_at_zero Go.wp_at_succ
set_option maxRecDepth 20000
def cc (prob : List Nat) (r : Bool) (pv qv : Value) : Array Value := (G1 prob ++ [.bool r, pv, qv]).toArray
theorem J6 {w : World} {base : Nat} {e : TypeId} {size n : Nat} {v : Value} {xs : List Value} (h : w.ownsRow base e size v n xs) : ∃ A c, v = .slice A n c := by
 rcases h.2 with ⟨rfl, rfl⟩ | ⟨g, cap, cur, rfl, _⟩
 ·exact ⟨_, _, rfl⟩
 ·exact ⟨_, _, rfl⟩
theorem Em {w : World} {base : Nat} {e : TypeId} {size n : Nat} {v : Value} {xs : List Value} (h : w.ownsRow base e size v n xs) : v.cells = #[v] := by obtain ⟨A, c, rfl⟩ := J6 h; rfl
theorem GI {w : World} {base : Nat} {e : TypeId} {size n : Nat} {v : Value} {xs : List Value} (h : w.ownsRow base e size v n xs) : v.oneCell' = true := by obtain ⟨A, c, rfl⟩ := J6 h; rfl
section
variable {w wr w1 w2 : World} {C : Nat} {par z : Array Value} {P : List Nat} {r : Bool} {plan plan' : List Int} {cubes cubes' : List (Nat × Nat)} {pv qv v : Value}
end
end
section
open Go.RowKit
attribute [local go_sem ↓] Go.wp_at_zero Go.wp_at_succ
theorem Jp (y n : Value) (Y N : Nat) (w : World) (D E : Nat -> Prop) (hy : A6 w D (.agg #[y]) Y) (hn : A6 w E (.agg #[n]) N) :
  Calls Tryz.prog 69 #[.agg #[y, n]] w (AM (fun u _ => u = .bool (Y &&& N != 0)) w) := by
 obtain ⟨A, l, c, rfl⟩ := hy.shape
 obtain ⟨A', l', c', rfl⟩ := hn.shape
 go_enter Tryz.func69, Tryz.ntmps69
 go_wp2_with (go_at_call 80; refine (FB _ _ Y N _ D E (hy.alloc _) (hn.alloc _)).mono ?_; rintro e w' ⟨_, rfl, rfl, hb⟩)
 go_ret
 exact AM.mk rfl (((Below.refl _ _).alloc (Nat.le_refl _) _).trans (hb.mono (by simp)))
end
section
open Go.RowKit
attribute [local go_sem ↓] Go.wp_at_zero Go.wp_at_succ
set_option maxRecDepth 20000
def roles : Nat := del (2 ^ 64 - 1) 0
end
section
open Go.RowKit
attribute [local go_sem ↓] Go.wp_at_zero Go.wp_at_succ
set_option maxRecDepth 20000
end
section
open Go.RowKit
attribute [local go_sem ↓] Go.wp_at_zero Go.wp_at_succ
set_option maxRecDepth 20000
end
section
open Go.RowKit
attribute [local go_sem ↓] Go.wp_at_zero Go.wp_at_succ
set_option maxRecDepth 20000
end
section
open Go.RowKit
attribute [local go_sem ↓] Go.wp_at_zero Go.wp_at_succ
set_option maxRecDepth 20000
def lew (l : List Nat) (i : Nat) : Nat -> Nat
 | 0 => 0
 | n + 1 => (lew l i n * 256) % BK ||| l.getD (8 * i + (7 - n)) 0
def absW (a l : List Nat) (i : Nat) : Nat := a.getD i 0 ^^^ lew l i 8
def absorbK (a l : List Nat) : List Nat := perm (mixTo (absW a l) a 17)
end
section
open Go.RowKit
attribute [local go_sem ↓] Go.wp_at_zero Go.wp_at_succ
set_option maxRecDepth 20000
section
variable {w : World} {h : Nat} {t : TypeId} {st blk : List Nat} {u tot : Nat}
end
def blkOf (l : List Nat) (j : Nat) : List Nat := (l.drop (136 * j)).take 136
def stB (st l : List Nat) : Nat -> List Nat
 | 0 => st
 | j + 1 => absorbK (stB st l j) (blkOf l j)
end
section
open Go.RowKit
attribute [local go_sem ↓] Go.wp_at_zero Go.wp_at_succ
set_option maxRecDepth 20000
section
variable {w : World} {b : Nat} {t : TypeId} {l : List Nat}
end
end
section
open Go.RowKit
attribute [local go_sem ↓] Go.wp_at_zero Go.wp_at_succ
set_option maxRecDepth 20000
end
section
open Go.RowKit
attribute [local go_sem ↓] Go.wp_at_zero Go.wp_at_succ
set_option maxRecDepth 20000
def sb (s : ByteArray) : List Nat := s.data.toList.map (·.toNat)
end
section
open Go.RowKit
attribute [local go_sem ↓] Go.wp_at_zero Go.wp_at_succ
set_option maxRecDepth 20000
theorem sleq_any (u v : Value) (l m : List Int) (w : World) (D E : Nat -> Prop) (hu : Sl w D 1 u l.length (AX l)) (hv : Sl w E 1 v m.length (AX m)) :
  Calls Tryz.prog 37 #[u, v] w (AM (fun x _ => x = .bool (l == m)) w) := by
 obtain ⟨A, c, rfl, h1, h2⟩ := hu.shape
 obtain ⟨A', c', rfl, h3, h4⟩ := hv.shape
 by_cases hlen : l.length = m.length
 ·rcases Nat.eq_zero_or_pos l.length with h0 | h0
  ·obtain rfl : l = [] := List.eq_nil_of_length_eq_zero h0
   obtain rfl : m = [] := List.eq_nil_of_length_eq_zero (by simpa using hlen.symm)
   refine (Tryz.slices_Equal_int_empty A A' c 0 c' w (by omega)).mono ?_
   rintro e w' ⟨rfl, rfl⟩
   exact AM.mk rfl (Below.refl _ _)
  ·obtain ⟨b, o, rfl, _, _, hc⟩ := hu.int (k := 0) h0
   obtain ⟨b', o', rfl, _, _, hc'⟩ := hv.int (k := 0) (by omega)
   refine (Tryz.slices_Equal_int b o l.length c b' o' m.length c' l m w (Nat.le_refl _) (Nat.le_refl _) (by omega) (by omega) hc hc').mono ?_
   rintro e w' ⟨rfl, q, rfl⟩
   rw [List.take_length, List.take_length]
   exact AM.mk rfl (FG (Below.refl _ _) _)
 ·refine (Tryz.slices_Equal_int_lens A A' l.length c m.length c' w hlen).mono ?_
  rintro e w' ⟨rfl, rfl⟩
  refine AM.mk ?_ (Below.refl _ _)
  have : (l == m) = false := by rw [beq_eq_false_iff_ne]; rintro rfl; exact hlen rfl
  rw [this]
theorem Jo (u v : Value) (z t : Nat × Nat) (w : World) (D E : Nat -> Prop) (hu : AO w D u z) (hv : AO w E v t) :
  Calls Tryz.prog 43 #[u, v] w (AM (fun x _ => x = .bool (z == t)) w) := by
 obtain ⟨a, b, rfl, ha, hb⟩ := hu
 obtain ⟨a', b', rfl, ha', hb'⟩ := hv
 obtain ⟨y, n⟩ := z
 obtain ⟨y', n'⟩ := t
 dsimp only at ha hb ha' hb'
 obtain ⟨A, m, c, rfl⟩ := ha.shape
 obtain ⟨B, k, d, rfl⟩ := hb.shape
 obtain ⟨A', m', c', rfl⟩ := ha'.shape
 obtain ⟨B', k', d', rfl⟩ := hb'.shape
 have hX := (Co.new w 54 #[.slice A m c, .slice B k d]).alloc (.cells #[.slice A' m' c', .slice B' k' d'] 54)
 have hY := Co.new (w.alloc (.cells #[.slice A m c, .slice B k d] 54)) 54 #[.slice A' m' c', .slice B' k' d']
 have hB := ((Below.refl w.heap.size w).alloc (Nat.le_refl _) (.cells #[.slice A m c, .slice B k d] 54)).alloc (by simp) (.cells #[.slice A' m' c', .slice B' k' d'] 54)
 rw [World.size_alloc] at hY
 have HR := Lib.hid (show ((y, n) == (y', n')) = (y == y' && n == n') from rfl)
 go_enter Tryz.func43, Tryz.ntmps43
 go_wp2_with fail
 change Calls _ _ _ ((w.alloc (.cells #[.slice A m c, .slice B k d] 54)).alloc (.cells #[.slice A' m' c', .slice B' k' d'] 54)) _
 generalize ((w.alloc (.cells #[.slice A m c, .slice B k d] 54)).alloc (.cells #[.slice A' m' c', .slice B' k' d'] 54)) = W at *
 refine (Er _ _ y y' W D E (ha.ext hB) (ha'.ext hB)).mono ?_
 rintro e w1 ⟨_, rfl, rfl, hb1⟩
 have x1 := (hX.ext hb1).cell 1
 have y1 := (hY.ext hb1).cell 1
 simp at x1 y1
 have hB1 := C1 hB hb1
 generalize (y == y') = q at *
 cases q
 ·go_wp2_with fail
  go_ret
  exact AM.mk (by rw [HR.out]; rfl) hB1
 ·go_wp2_with fail
  refine (Er _ _ n n' w1 D E (hb.ext hB1) (hb'.ext hB1)).mono ?_
  rintro e w2 ⟨_, rfl, rfl, hb2⟩
  go_wp2_with fail
  go_ret
  exact AM.mk (v := .bool (n == n')) (by rw [HR.out]; rfl) (C1 hB1 hb2)
theorem getD_eq_list {α : Type} {l t : List α} (d : α) (h : l.length = t.length) (ha : ∀ j, j < l.length -> l.getD j d = t.getD j d) : l = t := by
 apply List.ext_getElem h
 intro i h1 h2
 have := ha i h1
 simpa [List.getD_eq_getElem?_getD, List.getElem?_eq_getElem h1, List.getElem?_eq_getElem h2] using this
theorem eqcubes_any (u v : Value) (l t : List (Nat × Nat)) (w : World) (D E : Nat -> Prop) (hu : AB w D u l) (hv : AB w E v t) :
  Calls Tryz.prog 42 #[u, v, .func (.func 43) #[] #[]] w (AM (fun x _ => x = .bool (l == t)) w) := by
 obtain ⟨A, c, rfl, h1, h2⟩ := hu.shape
 obtain ⟨A', c', rfl, h3, h4⟩ := hv.shape
 by_cases hlen : l.length = t.length
 ·have HL := Lib.hid hlen
  have hd : ((l.length : Int) != t.length) = false := by simp [hlen]
  have hle : l.length <= t.length := by omega
  have hge : t.length <= l.length := by omega
  clear hlen
  go_enter Tryz.func42, Tryz.ntmps42
  go_wp2
  go_loopw [17] (fun i wr => ∃ k : Nat, k <= l.length /\ i = .int .i64 k /\ Below w.heap.size w wr /\ Hid (∀ j, j < k -> l.getD j (0, 0) = t.getD j (0, 0))) (fun i _ => l.length - (intOf i).toNat)
  case atStart => exact ⟨0, by omega, rfl, Below.refl _ _, fun j hj => absurd hj (by omega)⟩
  case round =>
   obtain ⟨k, hk, rfl, hB, hz⟩ := hrel
   by_cases hlt : k < l.length
   ·obtain ⟨b, o, y, n, rfl, _, hb, c0, c1, hy, hn⟩ := (hu.ext hB).at_ hlt
    obtain ⟨b', o', y', n', rfl, _, hb', c0', c1', hy', hn'⟩ := (hv.ext hB).at_ (k := k) (by omega)
    obtain ⟨Ay, my, cy, rfl⟩ := hy.shape
    obtain ⟨An, mn, cn, rfl⟩ := hn.shape
    obtain ⟨Ay', my', cy', rfl⟩ := hy'.shape
    obtain ⟨An', mn', cn', rfl⟩ := hn'.shape
    have hc1 : AO wr D (.agg #[.slice Ay my cy, .slice An mn cn]) (l.getD k (0, 0)) := ⟨_, _, rfl, hy, hn⟩
    have hc2 : AO wr E (.agg #[.slice Ay' my' cy', .slice An' mn' cn']) (t.getD k (0, 0)) := ⟨_, _, rfl, hy', hn'⟩
    have hN : l.getD k (0, 0) ≠ t.getD k (0, 0) -> (l == t) = false := fun h => by rw [beq_eq_false_iff_ne]; rintro rfl; exact h rfl
    have HN := Lib.hid hN
    have HZ := Lib.hid (show l.getD k (0, 0) = t.getD k (0, 0) -> ∀ j, j < k + 1 -> l.getD j (0, 0) = t.getD j (0, 0) from fun h0 j hj => by
     rcases Nat.lt_or_ge j k with h | h
     ·exact hz.out j h
     ·obtain rfl : j = k := by omega
      exact h0)
    clear hz hN hy hn hy' hn'
    generalize l.getD k (0, 0) = z1 at *
    generalize t.getD k (0, 0) = z2 at *
    have d1 : (wr.alloc (.cells #[.slice Ay my cy, .slice An mn cn] 54)).cell? ⟨b', o' + k * 2, none⟩ = some (.slice Ay' my' cy') := (World.cell?_alloc_lt _ _ _ hb').trans c0'
    have d2 : (wr.alloc (.cells #[.slice Ay my cy, .slice An mn cn] 54)).cell? ⟨b', o' + k * 2 + 1, none⟩ = some (.slice An' mn' cn') := (World.cell?_alloc_lt _ _ _ hb').trans c1'
    go_wp2_with fail
    have hBB := ((Below.refl wr.heap.size wr).alloc (Nat.le_refl _) (.cells #[.slice Ay my cy, .slice An mn cn] 54)).alloc (by simp) (.cells #[.slice Ay' my' cy', .slice An' mn' cn'] 54)
    refine (Jo _ _ z1 z2 _ D E (hc1.ext hBB) (hc2.ext hBB)).mono ?_
    rintro e w2 ⟨_, rfl, rfl, hb2⟩
    have hB2 := C1 (C1 hB hBB) hb2
    by_cases hq : z1 = z2
    ·have he : (z1 == z2) = true := by simpa using hq
     have HZ2 := Lib.hid (HZ.out hq)
     rw [he]
     clear hq he
     go_wp2_with fail
     exact ⟨⟨k + 1, hlt, by go_num, hB2, HZ2.out⟩, by simp [intOf]; omega⟩
    ·have he : (z1 == z2) = false := by simpa using hq
     have HE := Lib.hid (HN.out hq)
     rw [he]
     clear hq he
     go_wp2_with fail
     rw [HE.out]
     go_ret
     exact AM.mk rfl hB2
   ·obtain rfl : k = l.length := by omega
    have HE := Lib.hid (show (l == t) = true by rw [beq_iff_eq]; exact getD_eq_list (0, 0) HL.out hz.out)
    go_wp2_with fail
    rw [HE.out]
    go_ret
    exact AM.mk rfl hB
 ·have hd : ((l.length : Int) != t.length) = true := by simp; omega
  have HE := Lib.hid (show (l == t) = false by rw [beq_eq_false_iff_ne]; rintro rfl; exact hlen rfl)
  clear hlen
  go_enter Tryz.func42, Tryz.ntmps42
  go_wp2
  rw [HE.out]
  go_ret
  exact AM.mk rfl (Below.refl _ _)
end
section
open Go.RowKit
attribute [local go_sem ↓] Go.wp_at_zero Go.wp_at_succ
set_option maxRecDepth 20000
theorem J7 {P : Program} {o : Oper} {a : Act} {w : World} {K : Act -> World -> Prop} {Q : Exit -> Act -> World -> Prop} {t : TypeId} {x : Operand} {g j : Nat} {ty : TypeId} {cs : Array Value} {x' : Value} {d : TypeDesc} (ho : o.op = .load t x) (hx : a.eval x = .pointer (some ⟨g, j, none⟩)) (hb : Co w g ty cs) (hx' : cs[j]? = some x')
  (hu : P.underlying t = some d) (hd : d.isRow = true) (hi : (P.info? t).map (·.size) = some 1) (hk : K (a.put o.dst (.agg #[x'])) w) : o.wp P a w K Q :=
 B5 (cs := [x']) ho hx (fun i v hi => by
  cases i with
  | zero => simp at hi; subst hi; rw [Nat.add_zero, hb.cell]; exact hx'
  | succ i => simp at hi) hu hd hi hk
theorem BF {v : Value} {z : Nat × Nat} : AK fun D w => AO w D v z := fun D D' w w' h a b c => by
 obtain ⟨x, y, h1, h2, h3⟩ := h
 exact ⟨x, y, h1, A5 D D' w w' h2 a b c, A5 D D' w w' h3 a b c⟩
end
section
open Go.RowKit
attribute [local go_sem ↓] Go.wp_at_zero Go.wp_at_succ
set_option maxRecDepth 20000
set_option exponentiation.threshold 5000
section
variable {P : Program} {ops : Array Oper} {rest : List Oper} {o : Oper} {a : Act} {w : World} {Q : Exit -> Act -> World -> Prop}
end
theorem Hf.ins {L : List (Nat × Nat)} (h : Hf L) {x y : Nat} (hx : 1 <= x /\ x < 64) (hy : 1 <= y /\ y < 64) (hne : x ≠ y) (hm : (x, y) ∉ L) (ht : ¬ TC L y x) : Hf (ins L (x, y)) := by
 refine ⟨ins_asc h.asc hm, fun z hz => ?_, (acyc_ins h.acyc fun z => Iy).2 ?_⟩
 ·rcases Iy.1 hz with rfl | hz
  ·exact ⟨hx, hy⟩
  ·exact h.role z hz
 ·rintro (e | e)
  ·exact hne e.symm
  ·exact ht e
theorem CH {w : World} {D : Nat -> Prop} {size n c b o j : Nat} {xs : List Value} {x : Value} (h : Sl w D size (.slice (some ⟨b, o, none⟩) n c) n xs) (hj : xs[j]? = some x) : w.cell? ⟨b, o + j, none⟩ = some x := by
 obtain ⟨h1, A, c2, h2, _, _, h5⟩ := h
 have hlt := (List.getElem?_eq_some_iff.1 hj).1
 have hn : 0 < n := by
  rcases Nat.eq_zero_or_pos n with h0 | h0
  ·subst h0; simp at h1; subst h1; simp at hlt
  ·exact h0
 obtain ⟨b2, o2, h6, _, _, h8⟩ := h5 hn
 injection h2 with h2
 rw [h6] at h2
 injection h2 with h2
 injection h2 with h9 h10
 rw [h9, h10]
 exact h8 j x hj
end
section
open Go.RowKit
attribute [local go_sem ↓] Go.wp_at_zero Go.wp_at_succ
set_option maxRecDepth 20000
set_option exponentiation.threshold 5000
theorem run_and64 {P : Program} {w : World} {t : TypeId} {x y : Nat} (hx : x < BK) (hy : y < BK) : (binOp .and t (.int .u64 (x : Nat)) (.int .u64 (y : Nat))).run P w = .ok (.int .u64 ((x &&& y : Nat) : Int)) w := by
 go_simp; rw [and64 hx hy]
theorem Sl.only {w : World} {D : Nat -> Prop} {size n c g o : Nat} {xs : List Value} (h : Sl w D size (.slice (some ⟨g, o, none⟩) n c) n xs) : Sl w (fun z => D z /\ z = g) size (.slice (some ⟨g, o, none⟩) n c) n xs := by
 obtain ⟨h1, A, c', e, h3, h4, h5⟩ := h
 injection e with e1 e2 e3
 subst e1 e3
 refine ⟨h1, _, _, rfl, h3, h4, fun hp => ?_⟩
 obtain ⟨b, o', q1, q2, q3, q4⟩ := h5 hp
 injection q1 with q1
 injection q1 with q1 q5 _
 subst q1 q5
 exact ⟨_, _, rfl, ⟨q2, rfl⟩, q3, q4⟩
end
section
open Go.RowKit
attribute [local go_sem ↓] Go.wp_at_zero Go.wp_at_succ
set_option maxRecDepth 20000
set_option exponentiation.threshold 5000
section
variable {P : Program} {ops : Array Oper} {rest : List Oper} {o : Oper} {a : Act} {w0 w : World} {F : List Aj} {K : (Nat -> Prop) -> World -> Prop} {Kt : Act -> World -> Prop} {Q : Exit -> Act -> World -> Prop}
theorem BJ {x : Operand} {f : FuncId} {first caps : Array Value} {xs : Array Operand} {ts : Array TypeId} {vs : List Value} {R : Ending -> World -> Prop} (ho : o.op = .call { callee := .value x, args := xs, argTypes := ts }) (hx : a.eval x = .func (.func f) first caps) (hc : BX P f = true) (hv : first.toList ++ xs.toList.map a.eval ++ caps.toList = vs)
  (h : Calls P f vs.toArray w R) (hk : ∀ e w', R e w' -> ∃ v, e = .returned v /\ Kt (a.put o.dst v) w') : o.wp P a w Kt Q := by
 have he : execOp a.eval o = callFunc f vs.toArray := by
  cases o with
  | mk dst op ty pos after guard =>
   simp only at ho
   subst ho
   have e1 : vs.toArray = first ++ xs.map a.eval ++ caps := by rw [<- hv]; simp
   rw [e1]
   simp [execOp, resolve, hx, Deferred.ofValue, invoke]
 unfold Oper.wp
 rw [he, Gz f vs.toArray hc]
 refine h.mono fun e w' hR => ?_
 obtain ⟨v, rfl, hk⟩ := hk e w' hR
 exact hk
theorem A7 (h : St w0 w F K) (i : Nat) (hg : Region.wanted o (yielded ops a.tmps) = true) (x : Operand) (ty : TypeId) (ho : o.op = .load ty x) (g j : Nat) (hx : a.eval x = .pointer (some ⟨g, j, none⟩)) (t : TypeId) (cs : Array Value) (hb : F[i]? = some (.box g t cs)) (v : Value) (hv : cs[j]? = some v)
  {d : TypeDesc} (hu : P.underlying ty = some d) (hd : d.isRow = true) (hi : (P.info? ty).map (·.size) = some 1) (hk : wpList P ops Q rest (a.put o.dst (.agg #[v])) w) : wpList P ops Q (o :: rest) a w :=
 BigFrame.wpList_want hg fun _ hK => J7 ho hx (h.box i hb) hv hu hd hi (hK _ _ hk)
theorem st_cubel (h : St w0 w F K) (i : Nat) (hg : Region.wanted o (yielded ops a.tmps) = true) (x : Operand) (ty : TypeId) (ho : o.op = .load ty x) (g j : Nat) (hx : a.eval x = .pointer (some ⟨g, j, none⟩)) (t : TypeId) (cs : Array Value) (hb : F[i]? = some (.box g t cs)) (v u : Value) (hv : cs[j]? = some v) (hv2 : cs[j + 1]? = some u)
  {d : TypeDesc} (hu : P.underlying ty = some d) (hd : d.isRow = true) (hi : (P.info? ty).map (·.size) = some 2) (hk : wpList P ops Q rest (a.put o.dst (.agg #[v, u])) w) : wpList P ops Q (o :: rest) a w :=
 BigFrame.wpList_want hg fun _ hK => B5 (cs := [v, u]) ho hx (fun k z hz => by
  have hbx := h.box i hb
  match k, hz with
  | 0, hz => obtain rfl := Option.some.inj (show some _ = some z from hz); rw [Nat.add_zero, hbx.cell]; exact hv
  | 1, hz => obtain rfl := Option.some.inj (show some _ = some z from hz); rw [hbx.cell]; exact hv2
  | k + 2, hz => simp at hz) hu hd hi (hK _ _ hk)
end
theorem rng2 {w : World} {g i : Nat} {a b : Value} (h0 : w.cell? ⟨g, i, none⟩ = some a) (h1 : w.cell? ⟨g, i + 1, none⟩ = some b) : w.rangeAt g i [a, b] := fun j v hj => by
 match j, hj with
 | 0, hj => obtain rfl := Option.some.inj (show some _ = some v from hj); exact h0
 | 1, hj => obtain rfl := Option.some.inj (show some _ = some v from hj); exact h1
 | j + 2, hj => simp at hj
theorem run_geB {P : Program} {w : World} {t : TypeId} {k : IntKind} {m n : Int} {b : Bool} (h : decide (m ≥ n) = b) : (binOp .geq t (.int k m) (.int k n)).run P w = .ok (.bool b) w := by
 rw [binOp_geq, <- h]; simp
def Bv (z : Nat × Nat) (N : Nat) : Bool := (z.1 &&& N == z.1) && !(z.2 &&& N != 0)
theorem I3 {w0 : World} {D E : Nat -> Prop} {u v : Value} {z : Nat × Nat} {N : Nat} (hu : AO w0 D u z) (hv : A6 w0 E v N) : Calls Tryz.prog 101 #[u, v] w0 (AM (fun x _ => x = .bool (Bv z N)) w0) := by
 obtain ⟨a, b, rfl, ha, hb⟩ := hu
 obtain ⟨y, n⟩ := z
 dsimp only at ha hb
 obtain ⟨A, m, c, rfl⟩ := ha.shape
 obtain ⟨B, k, d, rfl⟩ := hb.shape
 obtain ⟨C, e, lw, rfl, -⟩ := hv.parts
 obtain ⟨l, hl⟩ : ∃ l, l = lw.length := ⟨_, rfl⟩
 rw [<- hl] at hv ⊢
 clear hl
 obtain ⟨K, ka, kb, kc, hS⟩ : ∃ K : (Nat -> Prop) -> World -> Prop, (∀ D w, K D w -> A6 w D (.agg #[.slice A m c]) y) /\ (∀ D w, K D w -> A6 w D (.agg #[.slice B k d]) n) /\ (∀ D w, K D w -> A6 w D (.agg #[.slice C l e]) N) /\ St w0 w0 [] K :=
  ⟨fun D w => (A6 w D (.agg #[.slice A m c]) y /\ A6 w D (.agg #[.slice B k d]) n) /\ A6 w D (.agg #[.slice C l e]) N, fun _ _ h => h.1.1, fun _ _ h => h.1.2, fun _ _ h => h.2, St.start (D := fun _ => True) ((A5.and A5).and A5) ⟨⟨ha.imp fun _ _ _ => trivial, hb.imp fun _ _ _ => trivial⟩, hv.imp fun _ _ _ => trivial⟩⟩
 clear ha hb hv
 have HR := Lib.hid (show Bv (y, n) N = ((y &&& N == y) && !(n &&& N != 0)) from rfl)
 generalize Bv (y, n) N = R at *
 obtain ⟨b1, hb1⟩ : ∃ b1, b1 = (y &&& N == y) := ⟨_, rfl⟩
 have HB1 := Lib.hid hb1
 rw [<- hb1] at HR
 clear hb1
 go_enter Tryz.func101, Tryz.ntmps101
 cases b1
 all_goals
  go_wp2_with (first
   | ((with_reducible refine qA 2 ?_); refine AA hS rfl _ _ rfl (.agg #[.slice A m c, .slice B k d]) _ rfl rfl ?_; clear hS; intro g2 w_ hS; (try simp only [Act.put, Act.eval, zz, Value.cells] at hS))
   | ((with_reducible refine qA 3 ?_); refine AA hS rfl _ _ rfl (.agg #[.slice C l e]) _ rfl rfl ?_; clear hS; intro g3 w_ hS; (try simp only [Act.put, Act.eval, zz, Value.cells] at hS))
   | ((with_reducible refine qk 27 ?_); first | (refine A7 hS 0 rfl _ _ rfl _ _ rfl _ _ rfl _ (by first | rfl | assumption) Tryz.underlying27 rfl (by kernel_rfl) ?_) | (refine A7 hS 1 rfl _ _ rfl _ _ rfl _ _ rfl _ (by first | rfl | assumption) Tryz.underlying27 rfl (by kernel_rfl) ?_) | (refine A7 hS 2 rfl _ _ rfl _ _ rfl _ _ rfl _ (by first | rfl | assumption) Tryz.underlying27 rfl (by kernel_rfl) ?_) | (refine A7 hS 3 rfl _ _ rfl _ _ rfl _ _ rfl _ (by first | rfl | assumption) Tryz.underlying27 rfl (by kernel_rfl) ?_) | (refine A7 hS 4 rfl _ _ rfl _ _ rfl _ _ rfl _ (by first | rfl | assumption) Tryz.underlying27 rfl (by kernel_rfl) ?_) | (refine A7 hS 5 rfl _ _ rfl _ _ rfl _ _ rfl _ (by first | rfl | assumption) Tryz.underlying27 rfl (by kernel_rfl) ?_))
   | (go_at_call 22; refine (Ew _ _ y N _ _ _ (ka _ _ hS.ro) (kc _ _ hS.ro)).mono ?_; rintro r_ w_ ⟨_, rfl, rfl, hb_⟩; rw [<- HB1.out]; replace hS := hS.ext hb_; clear hb_)
   | (go_at_call 80; refine (FB _ _ n N _ _ _ (kb _ _ hS.ro) (kc _ _ hS.ro)).mono ?_; rintro r_ w_ ⟨_, rfl, rfl, hb_⟩; replace hS := hS.ext hb_; clear hb_))
  go_ret
  exact AM.mk (by rw [HR.out]; rfl) hS.below
theorem idxc_any {w0 w : World} {F : List Aj} {K : (Nat -> Prop) -> World -> Prop} (v : Value) (l : List (Nat × Nat)) (f : FuncId) (first caps : Array Value) (q : Nat × Nat -> Bool) (hcg : BX Tryz.prog f = true) (hS : St w0 w F K) (kl : ∀ D w, K D w -> AB w D v l)
  (hq : ∀ (x : Value) (z : Nat × Nat) (w : World), z ∈ l -> (∃ F', St w0 w (F' ++ F) fun D w => K D w /\ AO w D x z) -> Calls Tryz.prog f (first.toList ++ [x] ++ caps.toList).toArray w (AM (fun r _ => r = .bool (q z)) w)) :
  Calls Tryz.prog 96 #[v, .func (.func f) first caps] w fun e w' => ∃ k : Int, e = .returned (.int .i64 k) /\ decide (0 <= k) = l.any q /\ St w0 w' F K := by
 obtain ⟨A, c, rfl, _, hc2⟩ := (kl _ _ hS.ro).shape
 have KS := Lib.hid hS.stable
 have HQ := Lib.hid hq
 clear hq
 have HCG := Lib.hid hcg
 clear hcg
 go_enter Tryz.func96, Tryz.ntmps96
 go_wp2_with (first | ((with_reducible refine qB ?_); refine qc ?_ ?_ <;> intro h_ <;> go_prune))
 go_loopw [8] (fun i wr => ∃ k : Nat, k <= l.length /\ i = .int .i64 (k : Nat) /\ St w0 wr F K /\ Hid (∀ z ∈ l.take k, q z = false)) (fun i _ => l.length - (intOf i).toNat)
 case atStart => exact ⟨0, by omega, rfl, hS, Lib.hid (by simp)⟩
 case round =>
  clear hS
  obtain ⟨k, hk, rfl, hS, HZ⟩ := hrel
  by_cases hlt : k < l.length
  ·obtain ⟨b, o, y, n, rfl, _, hb, c0, c1, hy, hn⟩ := (kl _ _ hS.ro).at_ hlt
   obtain ⟨Ay, my, cy, rfl⟩ := hy.shape
   obtain ⟨An, mn, cn, rfl⟩ := hn.shape
   have HM : Hid (l.getD k (0, 0) ∈ l) := Lib.hid (by rw [List.getD_eq_getElem?_getD, List.getElem?_eq_getElem hlt]; exact List.getElem_mem hlt)
   have HZ2 : Hid (q (l.getD k (0, 0)) = false -> ∀ z ∈ l.take (k + 1), q z = false) := Lib.hid fun h z hz => by
    rw [List.take_add_one, List.mem_append] at hz
    rcases hz with hz | hz
    ·exact HZ.out z hz
    ·rw [List.getElem?_eq_getElem hlt] at hz
     rw [List.getD_eq_getElem?_getD, List.getElem?_eq_getElem hlt] at h
     have : z = l[k] := by simpa using hz
     rw [this]; exact h
   have HY : Hid (q (l.getD k (0, 0)) = true -> true = l.any q) := Lib.hid fun h => (List.any_eq_true.2 ⟨_, HM.out, h⟩).symm
   replace hS := hS.add (D := CW F) (BF (v := .agg #[.slice Ay my cy, .slice An mn cn]) (z := l.getD k (0, 0))) ⟨_, _, rfl, hy, hn⟩ fun _ h _ => h
   clear hy hn
   generalize l.getD k (0, 0) = z at *
   have HK := Lib.hid (HQ.out (.agg #[.slice Ay my cy, .slice An mn cn]) z wr HM.out ⟨[], hS⟩)
   obtain ⟨args, hargs⟩ : ∃ args, args = first.toList ++ [Value.agg #[.slice Ay my cy, .slice An mn cn]] ++ caps.toList := ⟨_, rfl⟩
   rw [<- hargs] at HK
   have HARG := Lib.hid hargs
   clear hargs
   go_wp2_with (first
    | ((with_reducible refine qA 15 ?_); refine BigFrame.wpList_want rfl fun _ hK => B5 (cs := [.slice Ay my cy, .slice An mn cn]) rfl rfl (rng2 c0 c1) Tryz.underlying54 rfl (by kernel_rfl) (hK _ _ ?_))
    | ((with_reducible refine qA 16 ?_); refine BigFrame.wpList_want rfl fun _ hK => BJ (vs := args) rfl rfl HCG.out (by simp [Act.eval, Act.put, HARG.out]) HK.out fun e w' ⟨u_, he_, hu_, hb_⟩ => ⟨u_, he_, hK _ _ ?_⟩))
   ·go_ret
    exact ⟨_, rfl, (decide_eq_true (by omega)).trans (HY.out (by assumption)), (hS.ext hb_).mono KS.out fun _ _ h => h.1⟩
   ·exact ⟨⟨k + 1, hlt, by go_num, (hS.ext hb_).mono KS.out fun _ _ h => h.1, Lib.hid (HZ2.out (by assumption))⟩, by simp [intOf]; omega⟩
  ·obtain rfl : k = l.length := by omega
   have HN : Hid (false = l.any q) := Lib.hid (by
    have h := HZ.out
    rw [List.take_length] at h
    exact (List.any_eq_false.2 fun z hz => by rw [h z hz]; simp).symm)
   go_wp2_with (first | ((with_reducible refine qB ?_); refine qc ?_ ?_ <;> intro h_ <;> go_prune))
   go_ret
   exact ⟨_, rfl, (decide_eq_false (by omega)).trans HN.out, hS⟩
theorem H7 {w0 w : World} {F : List Aj} {K : (Nat -> Prop) -> World -> Prop} (v : Value) (l : List (Nat × Nat)) (f : FuncId) (first caps : Array Value) (q : Nat × Nat -> Bool) (hcg : BX Tryz.prog f = true) (hS : St w0 w F K) (kl : ∀ D w, K D w -> AB w D v l)
  (hq : ∀ (x : Value) (z : Nat × Nat) (w : World), z ∈ l -> (∃ F', St w0 w (F' ++ F) fun D w => K D w /\ AO w D x z) -> Calls Tryz.prog f (first.toList ++ [x] ++ caps.toList).toArray w (AM (fun r _ => r = .bool (q z)) w)) :
  Calls Tryz.prog 53 #[v, .func (.func f) first caps] w fun e w' => e = .returned (.bool (l.any q)) /\ St w0 w' F K := by
 have HI := Lib.hid (idxc_any v l f first caps q hcg hS kl hq)
 clear hcg hS kl hq
 go_enter Tryz.func53, Tryz.ntmps53
 go_wp2_with fail
 refine HI.out.mono ?_
 rintro e w1 ⟨k, rfl, hk, hS⟩
 have HK := Lib.hid hk
 clear hk
 go_wp2_with (first | ((with_reducible refine qA 8 ?_); refine BigFrame.wpList_want rfl fun _ hK => Bb (vx := .int .i64 k) (vy := .int .i64 0) (v := .bool (l.any q)) rfl rfl rfl rfl (run_geB ((decide_eq_decide.2 (by omega)).trans HK.out)) (hK _ _ ?_)))
 go_ret
 exact ⟨rfl, hS⟩
end
section
open Go.RowKit
attribute [local go_sem ↓] Go.wp_at_zero Go.wp_at_succ
set_option maxRecDepth 20000
set_option exponentiation.threshold 5000
theorem some1_any {w : World} {D E : Nat -> Prop} {x sv : Value} {z : Nat × Nat} {N g : Nat} (hx : AO w D x z) (hb : BQ w E g #[sv]) (hs : A6 w E (.agg #[sv]) N) : Calls Tryz.prog 100 #[x, .pointer (some ⟨g, 0, none⟩)] w (AM (fun r _ => r = .bool (Bv z N)) w) := by
 obtain ⟨a, b, rfl, ha, hb1⟩ := hx
 obtain ⟨A, m, c, rfl⟩ := ha.shape
 obtain ⟨B, k, d, rfl⟩ := hb1.shape
 obtain ⟨C, l, e, rfl⟩ := hs.shape
 obtain ⟨K, ka, kb, kc, hS⟩ : ∃ K : (Nat -> Prop) -> World -> Prop, (∀ D w, K D w -> AO w D (.agg #[.slice A m c, .slice B k d]) z) /\ (∀ D w, K D w -> BQ w D g #[.slice C l e]) /\ (∀ D w, K D w -> A6 w D (.agg #[.slice C l e]) N) /\ St w w [] K :=
  ⟨fun D w => (AO w D (.agg #[.slice A m c, .slice B k d]) z /\ BQ w D g #[.slice C l e]) /\ A6 w D (.agg #[.slice C l e]) N, fun _ _ h => h.1.1, fun _ _ h => h.1.2, fun _ _ h => h.2, St.start (D := fun _ => True) ((BF.and AU).and A5) ⟨⟨⟨_, _, rfl, ha.imp fun _ _ _ => trivial, hb1.imp fun _ _ _ => trivial⟩, AU E _ w w hb (Nat.le_refl _) (fun _ _ _ _ h => h) fun _ _ _ _ => trivial⟩, hs.imp fun _ _ _ => trivial⟩⟩
 clear ha hb1 hb hs
 go_enter Tryz.func100, Tryz.ntmps100
 go_wp2_with (first
  | ((with_reducible refine qA 2 ?_); refine AA hS rfl _ _ rfl (.agg #[.slice A m c, .slice B k d]) _ rfl rfl ?_; clear hS; intro g2 w_ hS; (try simp only [Act.put, Act.eval, zz, Value.cells] at hS))
  | ((with_reducible refine qK ?_); refine qL hS Tryz.underlying54 ?_)
  | ((with_reducible refine qk 27 ?_); refine BigFrame.wpList_want rfl fun _ hK => B5 (cs := [.slice C l e]) rfl rfl (Hz ((kb _ _ hS.ro).cell 0 rfl)) Tryz.underlying27 rfl (by kernel_rfl) (hK _ _ ?_))
  | (go_at_call 101; refine (I3 (ka _ _ hS.ro) (kc _ _ hS.ro)).mono ?_; rintro r_ w_ ⟨_, rfl, rfl, hb_⟩; replace hS := hS.ext hb_; clear hb_))
 go_ret
 exact AM.mk rfl hS.below
theorem some_any {w0 : World} {D E : Nat -> Prop} {v u : Value} {l : List (Nat × Nat)} {N : Nat} (hv : AB w0 D v l) (hu : A6 w0 E u N) : Calls Tryz.prog 60 #[v, u] w0 (AM (fun r _ => r = .bool (l.any fun z => Bv z N)) w0) := by
 obtain ⟨A, c, rfl, _, _⟩ := hv.shape
 obtain ⟨C, e, lw, rfl, -⟩ := hu.parts
 obtain ⟨n, hn⟩ : ∃ n, n = lw.length := ⟨_, rfl⟩
 rw [<- hn] at hu ⊢
 clear hn
 obtain ⟨K, kl, ks, hS⟩ : ∃ K : (Nat -> Prop) -> World -> Prop, (∀ D w, K D w -> AB w D (.slice A l.length c) l) /\ (∀ D w, K D w -> A6 w D (.agg #[.slice C n e]) N) /\ St w0 w0 [] K :=
  ⟨fun D w => AB w D (.slice A l.length c) l /\ A6 w D (.agg #[.slice C n e]) N, fun _ _ h => h.1, fun _ _ h => h.2, St.start (D := fun _ => True) (AV.and A5) ⟨hv.imp fun _ _ _ => trivial, hu.imp fun _ _ _ => trivial⟩⟩
 clear hv hu
 go_enter Tryz.func60, Tryz.ntmps60
 go_wp2_with (first
  | (((with_reducible refine qA 3 ?_); refine AA hS rfl _ _ rfl (.agg #[.slice C n e]) _ rfl rfl ?_; clear hS; intro g3 w_ hS; (try simp only [Act.put, Act.eval, zz, Value.cells] at hS)); replace hS := hS.sealB 0 (by simp) rfl)
  | (go_at_call 53; refine (H7 _ l 100 #[] #[.pointer (some ⟨g3, 0, none⟩)] (fun z => Bv z N) (by kernel_rfl) hS (fun D w h => kl D w h.1) fun x z w _ ⟨F', h⟩ => some1_any h.ro.2 h.ro.1.2 (ks _ _ h.ro.1.1)).mono ?_; clear hS; rintro e_ w_ ⟨rfl, hS⟩))
 go_ret
 exact AM.mk rfl hS.below
structure AW where
 revoke : Bool
 yes : Nat
 no : Nat
 target : Int
 origin : Int
def AL : AW := ⟨false, 0, 0, 0, 0⟩
def EK (w : World) (D : Nat -> Prop) (v : Value) (z : AW) : Prop := ∃ a b, v = .agg #[.bool z.revoke, a, b, .int .i64 z.target, .int .i64 z.origin] /\ A6 w D (.agg #[a]) z.yes /\ A6 w D (.agg #[b]) z.no
theorem F3 {v : Value} {z : AW} : AK fun D w => EK w D v z := fun D D' w w' h a b c => by
 obtain ⟨x, y, h1, h2, h3⟩ := h
 exact ⟨x, y, h1, A5 D D' w w' h2 a b c, A5 D D' w w' h3 a b c⟩
def B6 (w : World) (D : Nat -> Prop) (xs : List Value) (l : List AW) : Prop :=
 ∀ i z, l[i]? = some z -> ∃ a b, xs[i * 5]? = some (.bool z.revoke) /\ xs[i * 5 + 1]? = some a /\ xs[i * 5 + 2]? = some b /\ xs[i * 5 + 3]? = some (.int .i64 z.target) /\ xs[i * 5 + 4]? = some (.int .i64 z.origin) /\ A6 w D (.agg #[a]) z.yes /\ A6 w D (.agg #[b]) z.no
theorem Ea {xs : List Value} {l : List AW} : AK fun D w => B6 w D xs l := fun D D' w w' h a b c i z hi => by
 obtain ⟨x, y, h1, h2, h3, h4, h5, h6, h7⟩ := h i z hi
 exact ⟨x, y, h1, h2, h3, h4, h5, A5 D D' w w' h6 a b c, A5 D D' w w' h7 a b c⟩
def Bi (w : World) (D : Nat -> Prop) (v : Value) (l : List AW) : Prop := ∃ xs : List Value, Sl w D 5 v l.length xs /\ B6 w D xs l
theorem B9 {v : Value} {l : List AW} : AK fun D w => Bi w D v l := fun D D' w w' h a b c => by
 obtain ⟨xs, h1, h2⟩ := h
 exact ⟨xs, Az (by decide) D D' w w' h1 a b c, Ea D D' w w' h2 a b c⟩
theorem Bi.shape {w : World} {D : Nat -> Prop} {v : Value} {l : List AW} (h : Bi w D v l) : ∃ A c, v = .slice A l.length c /\ l.length <= c /\ c <= 9223372036854775807 := by
 obtain ⟨xs, h, _⟩ := h
 exact h.shape
theorem Bi.at_ {w : World} {D : Nat -> Prop} {l : List AW} {A : Option Addr} {n c : Nat} (h : Bi w D (.slice A n c) l) {k : Nat} (hk : k < l.length) :
  ∃ b o y m, A = some ⟨b, o, none⟩ /\ D b /\ b < w.heap.size /\ w.cell? ⟨b, o + k * 5, none⟩ = some (.bool (l.getD k AL).revoke) /\ w.cell? ⟨b, o + k * 5 + 1, none⟩ = some y /\ w.cell? ⟨b, o + k * 5 + 2, none⟩ = some m /\ w.cell? ⟨b, o + k * 5 + 3, none⟩ = some (.int .i64 (l.getD k AL).target) /\ w.cell? ⟨b, o + k * 5 + 4, none⟩ = some (.int .i64 (l.getD k AL).origin) /\ A6 w D (.agg #[y]) (l.getD k AL).yes /\ A6 w D (.agg #[m]) (l.getD k AL).no := by
 obtain ⟨xs, ⟨hl, A', c', h1, _, _, h2⟩, h3⟩ := h
 injection h1 with h1
 subst h1
 obtain ⟨b, o, rfl, hD, hb, hc⟩ := h2 (by omega)
 have e : l[k]? = some (l.getD k AL) := by rw [List.getD_eq_getElem?_getD, List.getElem?_eq_getElem hk]; rfl
 obtain ⟨y, m, q0, q1, q2, q3, q4, q5, q6⟩ := h3 k _ e
 exact ⟨b, o, y, m, rfl, hD, hb, hc _ _ q0, hc _ _ q1, hc _ _ q2, hc _ _ q3, hc _ _ q4, q5, q6⟩
theorem J0 {w : World} {g i : Nat} {a b c d e : Value} (h0 : w.cell? ⟨g, i, none⟩ = some a) (h1 : w.cell? ⟨g, i + 1, none⟩ = some b) (h2 : w.cell? ⟨g, i + 2, none⟩ = some c) (h3 : w.cell? ⟨g, i + 3, none⟩ = some d) (h4 : w.cell? ⟨g, i + 4, none⟩ = some e) : w.rangeAt g i [a, b, c, d, e] := fun j v hj => by
 match j, hj with
 | 0, hj => obtain rfl := Option.some.inj (show some _ = some v from hj); exact h0
 | 1, hj => obtain rfl := Option.some.inj (show some _ = some v from hj); exact h1
 | 2, hj => obtain rfl := Option.some.inj (show some _ = some v from hj); exact h2
 | 3, hj => obtain rfl := Option.some.inj (show some _ = some v from hj); exact h3
 | 4, hj => obtain rfl := Option.some.inj (show some _ = some v from hj); exact h4
 | j + 5, hj => simp at hj
theorem idxr_any {w0 w : World} {F : List Aj} {K : (Nat -> Prop) -> World -> Prop} (v : Value) (l : List (AW)) (f : FuncId) (first caps : Array Value) (q : AW -> Bool) (hcg : BX Tryz.prog f = true) (hS : St w0 w F K) (kl : ∀ D w, K D w -> Bi w D v l)
  (hq : ∀ (x : Value) (z : AW) (w : World), z ∈ l -> (∃ F', St w0 w (F' ++ F) fun D w => K D w /\ EK w D x z) -> Calls Tryz.prog f (first.toList ++ [x] ++ caps.toList).toArray w (AM (fun r _ => r = .bool (q z)) w)) :
  Calls Tryz.prog 97 #[v, .func (.func f) first caps] w fun e w' => ∃ k : Int, e = .returned (.int .i64 k) /\ decide (0 <= k) = l.any q /\ St w0 w' F K := by
 obtain ⟨A, c, rfl, _, hc2⟩ := (kl _ _ hS.ro).shape
 have KS := Lib.hid hS.stable
 have HQ := Lib.hid hq
 clear hq
 have HCG := Lib.hid hcg
 clear hcg
 go_enter Tryz.func97, Tryz.ntmps97
 go_wp2_with (first | ((with_reducible refine qB ?_); refine qc ?_ ?_ <;> intro h_ <;> go_prune))
 go_loopw [8] (fun i wr => ∃ k : Nat, k <= l.length /\ i = .int .i64 (k : Nat) /\ St w0 wr F K /\ Hid (∀ z ∈ l.take k, q z = false)) (fun i _ => l.length - (intOf i).toNat)
 case atStart => exact ⟨0, by omega, rfl, hS, Lib.hid (by simp)⟩
 case round =>
  clear hS
  obtain ⟨k, hk, rfl, hS, HZ⟩ := hrel
  by_cases hlt : k < l.length
  ·obtain ⟨b, o, y, n, rfl, _, hb, c0, c1, c2, c3, c4, hy, hn⟩ := (kl _ _ hS.ro).at_ hlt
   obtain ⟨Ay, my, cy, rfl⟩ := hy.shape
   obtain ⟨An, mn, cn, rfl⟩ := hn.shape
   have HM : Hid (l.getD k AL ∈ l) := Lib.hid (by rw [List.getD_eq_getElem?_getD, List.getElem?_eq_getElem hlt]; exact List.getElem_mem hlt)
   have HZ2 : Hid (q (l.getD k AL) = false -> ∀ z ∈ l.take (k + 1), q z = false) := Lib.hid fun h z hz => by
    rw [List.take_add_one, List.mem_append] at hz
    rcases hz with hz | hz
    ·exact HZ.out z hz
    ·rw [List.getElem?_eq_getElem hlt] at hz
     rw [List.getD_eq_getElem?_getD, List.getElem?_eq_getElem hlt] at h
     have : z = l[k] := by simpa using hz
     rw [this]; exact h
   have HY : Hid (q (l.getD k AL) = true -> true = l.any q) := Lib.hid fun h => (List.any_eq_true.2 ⟨_, HM.out, h⟩).symm
   replace hS := hS.add (D := CW F) (F3 (v := .agg #[.bool (l.getD k AL).revoke, .slice Ay my cy, .slice An mn cn, .int .i64 (l.getD k AL).target, .int .i64 (l.getD k AL).origin]) (z := l.getD k AL)) ⟨_, _, rfl, hy, hn⟩ fun _ h _ => h
   clear hy hn
   generalize l.getD k AL = z at *
   have HK := Lib.hid (HQ.out (.agg #[.bool z.revoke, .slice Ay my cy, .slice An mn cn, .int .i64 z.target, .int .i64 z.origin]) z wr HM.out ⟨[], hS⟩)
   obtain ⟨args, hargs⟩ : ∃ args, args = first.toList ++ [Value.agg #[.bool z.revoke, .slice Ay my cy, .slice An mn cn, .int .i64 z.target, .int .i64 z.origin]] ++ caps.toList := ⟨_, rfl⟩
   rw [<- hargs] at HK
   have HARG := Lib.hid hargs
   clear hargs
   go_wp2_with (first
    | ((with_reducible refine qA 15 ?_); refine BigFrame.wpList_want rfl fun _ hK => B5 (cs := [.bool z.revoke, .slice Ay my cy, .slice An mn cn, .int .i64 z.target, .int .i64 z.origin]) rfl rfl (J0 c0 c1 c2 c3 c4) Tryz.underlying58 rfl (by kernel_rfl) (hK _ _ ?_))
    | ((with_reducible refine qA 16 ?_); refine BigFrame.wpList_want rfl fun _ hK => BJ (vs := args) rfl rfl HCG.out (by simp [Act.eval, Act.put, HARG.out]) HK.out fun e w' ⟨u_, he_, hu_, hb_⟩ => ⟨u_, he_, hK _ _ ?_⟩))
   ·go_ret
    exact ⟨_, rfl, (decide_eq_true (by omega)).trans (HY.out (by assumption)), (hS.ext hb_).mono KS.out fun _ _ h => h.1⟩
   ·exact ⟨⟨k + 1, hlt, by go_num, (hS.ext hb_).mono KS.out fun _ _ h => h.1, Lib.hid (HZ2.out (by assumption))⟩, by simp [intOf]; omega⟩
  ·obtain rfl : k = l.length := by omega
   have HN : Hid (false = l.any q) := Lib.hid (by
    have h := HZ.out
    rw [List.take_length] at h
    exact (List.any_eq_false.2 fun z hz => by rw [h z hz]; simp).symm)
   go_wp2_with (first | ((with_reducible refine qB ?_); refine qc ?_ ?_ <;> intro h_ <;> go_prune))
   go_ret
   exact ⟨_, rfl, (decide_eq_false (by omega)).trans HN.out, hS⟩
theorem anyr_any {w0 w : World} {F : List Aj} {K : (Nat -> Prop) -> World -> Prop} (v : Value) (l : List (AW)) (f : FuncId) (first caps : Array Value) (q : AW -> Bool) (hcg : BX Tryz.prog f = true) (hS : St w0 w F K) (kl : ∀ D w, K D w -> Bi w D v l)
  (hq : ∀ (x : Value) (z : AW) (w : World), z ∈ l -> (∃ F', St w0 w (F' ++ F) fun D w => K D w /\ EK w D x z) -> Calls Tryz.prog f (first.toList ++ [x] ++ caps.toList).toArray w (AM (fun r _ => r = .bool (q z)) w)) :
  Calls Tryz.prog 110 #[v, .func (.func f) first caps] w fun e w' => e = .returned (.bool (l.any q)) /\ St w0 w' F K := by
 have HI := Lib.hid (idxr_any v l f first caps q hcg hS kl hq)
 clear hcg hS kl hq
 go_enter Tryz.func110, Tryz.ntmps110
 go_wp2_with fail
 refine HI.out.mono ?_
 rintro e w1 ⟨k, rfl, hk, hS⟩
 have HK := Lib.hid hk
 clear hk
 go_wp2_with (first | ((with_reducible refine qA 8 ?_); refine BigFrame.wpList_want rfl fun _ hK => Bb (vx := .int .i64 k) (vy := .int .i64 0) (v := .bool (l.any q)) rfl rfl rfl rfl (run_geB ((decide_eq_decide.2 (by omega)).trans HK.out)) (hK _ _ ?_)))
 go_ret
 exact ⟨rfl, hS⟩
theorem idxp_any {w0 w : World} {F : List Aj} {K : (Nat -> Prop) -> World -> Prop} (v : Value) (l : List (Nat × Nat)) (f : FuncId) (first caps : Array Value) (q : Nat × Nat -> Bool) (hcg : BX Tryz.prog f = true) (hS : St w0 w F K) (kl : ∀ D w, K D w -> Sl w D 2 v l.length (Ah l))
  (hq : ∀ (x : Value) (z : Nat × Nat) (w : World), z ∈ l -> St w0 w F K -> x = .agg #[.int .i64 (z.1 : Nat), .int .i64 (z.2 : Nat)] -> Calls Tryz.prog f (first.toList ++ [x] ++ caps.toList).toArray w (AM (fun r _ => r = .bool (q z)) w)) :
  Calls Tryz.prog 145 #[v, .func (.func f) first caps] w fun e w' => ∃ k : Int, e = .returned (.int .i64 k) /\ decide (0 <= k) = l.any q /\ St w0 w' F K := by
 obtain ⟨A, c, rfl, _, hc2⟩ := (kl _ _ hS.ro).shape
 have KS := Lib.hid hS.stable
 have HQ := Lib.hid hq
 clear hq
 have HCG := Lib.hid hcg
 clear hcg
 go_enter Tryz.func145, Tryz.ntmps145
 go_wp2_with (first | ((with_reducible refine qB ?_); refine qc ?_ ?_ <;> intro h_ <;> go_prune))
 go_loopw [8] (fun i wr => ∃ k : Nat, k <= l.length /\ i = .int .i64 (k : Nat) /\ St w0 wr F K /\ Hid (∀ z ∈ l.take k, q z = false)) (fun i _ => l.length - (intOf i).toNat)
 case atStart => exact ⟨0, by omega, rfl, hS, Lib.hid (by simp)⟩
 case round =>
  clear hS
  obtain ⟨k, hk, rfl, hS, HZ⟩ := hrel
  by_cases hlt : k < l.length
  ·obtain ⟨f1, f2⟩ := BB l k hlt
   obtain ⟨b, o, rfl, c0, c1⟩ : ∃ b o, A = some ⟨b, o, none⟩ /\ wr.cell? ⟨b, o + k * 2, none⟩ = some (.int .i64 ((l.getD k (0, 0)).1 : Nat)) /\ wr.cell? ⟨b, o + k * 2 + 1, none⟩ = some (.int .i64 ((l.getD k (0, 0)).2 : Nat)) := by
    obtain ⟨_, A2, c2, e2, _, _, h5⟩ := kl _ _ hS.ro
    obtain ⟨b, o, h6, _, _, h7⟩ := h5 (by omega)
    injection e2 with e2
    exact ⟨b, o, e2.trans h6, h7 _ _ f1, h7 _ _ f2⟩
   clear f1 f2
   have HM : Hid (l.getD k (0, 0) ∈ l) := Lib.hid (by rw [List.getD_eq_getElem?_getD, List.getElem?_eq_getElem hlt]; exact List.getElem_mem hlt)
   have HZ2 : Hid (q (l.getD k (0, 0)) = false -> ∀ z ∈ l.take (k + 1), q z = false) := Lib.hid fun h z hz => by
    rw [List.take_add_one, List.mem_append] at hz
    rcases hz with hz | hz
    ·exact HZ.out z hz
    ·rw [List.getElem?_eq_getElem hlt] at hz
     rw [List.getD_eq_getElem?_getD, List.getElem?_eq_getElem hlt] at h
     have : z = l[k] := by simpa using hz
     rw [this]; exact h
   have HY : Hid (q (l.getD k (0, 0)) = true -> true = l.any q) := Lib.hid fun h => (List.any_eq_true.2 ⟨_, HM.out, h⟩).symm
   generalize l.getD k (0, 0) = z at *
   have HK := Lib.hid (HQ.out (.agg #[.int .i64 (z.1 : Nat), .int .i64 (z.2 : Nat)]) z wr HM.out hS rfl)
   obtain ⟨args, hargs⟩ : ∃ args, args = first.toList ++ [Value.agg #[.int .i64 (z.1 : Nat), .int .i64 (z.2 : Nat)]] ++ caps.toList := ⟨_, rfl⟩
   rw [<- hargs] at HK
   have HARG := Lib.hid hargs
   clear hargs
   go_wp2_with (first
    | ((with_reducible refine qA 15 ?_); refine BigFrame.wpList_want rfl fun _ hK => B5 (cs := [.int .i64 (z.1 : Nat), .int .i64 (z.2 : Nat)]) rfl rfl (rng2 c0 c1) Tryz.underlying151 rfl (by kernel_rfl) (hK _ _ ?_))
    | ((with_reducible refine qA 16 ?_); refine BigFrame.wpList_want rfl fun _ hK => BJ (vs := args) rfl rfl HCG.out (by simp [Act.eval, Act.put, HARG.out]) HK.out fun e w' ⟨u_, he_, hu_, hb_⟩ => ⟨u_, he_, hK _ _ ?_⟩))
   ·go_ret
    exact ⟨_, rfl, (decide_eq_true (by omega)).trans (HY.out (by assumption)), hS.ext hb_⟩
   ·exact ⟨⟨k + 1, hlt, by go_num, hS.ext hb_, Lib.hid (HZ2.out (by assumption))⟩, by simp [intOf]; omega⟩
  ·obtain rfl : k = l.length := by omega
   have HN : Hid (false = l.any q) := Lib.hid (by
    have h := HZ.out
    rw [List.take_length] at h
    exact (List.any_eq_false.2 fun z hz => by rw [h z hz]; simp).symm)
   go_wp2_with (first | ((with_reducible refine qB ?_); refine qc ?_ ?_ <;> intro h_ <;> go_prune))
   go_ret
   exact ⟨_, rfl, (decide_eq_false (by omega)).trans HN.out, hS⟩
theorem anyp_any {w0 w : World} {F : List Aj} {K : (Nat -> Prop) -> World -> Prop} (v : Value) (l : List (Nat × Nat)) (f : FuncId) (first caps : Array Value) (q : Nat × Nat -> Bool) (hcg : BX Tryz.prog f = true) (hS : St w0 w F K) (kl : ∀ D w, K D w -> Sl w D 2 v l.length (Ah l))
  (hq : ∀ (x : Value) (z : Nat × Nat) (w : World), z ∈ l -> St w0 w F K -> x = .agg #[.int .i64 (z.1 : Nat), .int .i64 (z.2 : Nat)] -> Calls Tryz.prog f (first.toList ++ [x] ++ caps.toList).toArray w (AM (fun r _ => r = .bool (q z)) w)) :
  Calls Tryz.prog 131 #[v, .func (.func f) first caps] w fun e w' => e = .returned (.bool (l.any q)) /\ St w0 w' F K := by
 have HI := Lib.hid (idxp_any v l f first caps q hcg hS kl hq)
 clear hcg hS kl hq
 go_enter Tryz.func131, Tryz.ntmps131
 go_wp2_with fail
 refine HI.out.mono ?_
 rintro e w1 ⟨k, rfl, hk, hS⟩
 have HK := Lib.hid hk
 clear hk
 go_wp2_with (first | ((with_reducible refine qA 8 ?_); refine BigFrame.wpList_want rfl fun _ hK => Bb (vx := .int .i64 k) (vy := .int .i64 0) (v := .bool (l.any q)) rfl rfl rfl rfl (run_geB ((decide_eq_decide.2 (by omega)).trans HK.out)) (hK _ _ ?_)))
 go_ret
 exact ⟨rfl, hS⟩
end
section
open Go.RowKit
attribute [local go_sem ↓] Go.wp_at_zero Go.wp_at_succ
set_option maxRecDepth 20000
set_option exponentiation.threshold 5000
theorem all1c_any {w0 w : World} {F : List Aj} {K : (Nat -> Prop) -> World -> Prop} {x : Value} {z : Nat × Nat} {g : Nat} {f : FuncId} {first caps : Array Value} {b : Bool} (hcg : BX Tryz.prog f = true) (hS : St w0 w F K) (kb : ∀ D w, K D w -> BQ w D g #[.func (.func f) first caps]) (kx : ∀ D w, K D w -> AO w D x z)
  (hq : ∀ w, (∃ F', St w0 w (F' ++ F) K) -> Calls Tryz.prog f (first.toList ++ [x] ++ caps.toList).toArray w (AM (fun r _ => r = .bool b) w)) :
  Calls Tryz.prog 134 #[x, .pointer (some ⟨g, 0, none⟩)] w (AM (fun r _ => r = .bool (!b)) w) := by
 obtain ⟨a0, b0, rfl, ha, hb⟩ := kx _ _ hS.ro
 obtain ⟨A, m, c, rfl⟩ := ha.shape
 obtain ⟨B, k, d, rfl⟩ := hb.shape
 obtain ⟨args, hargs⟩ : ∃ args, args = first.toList ++ [Value.agg #[.slice A m c, .slice B k d]] ++ caps.toList := ⟨_, rfl⟩
 rw [<- hargs] at hq
 have HARG := Lib.hid hargs
 have HQ := Lib.hid hq
 have HCG := Lib.hid hcg
 have HB := Lib.hid hS.below
 have hW := Below.refl w.heap.size w
 clear ha hb hargs hq hcg kx
 go_enter Tryz.func134, Tryz.ntmps134
 go_wp2_with (first
  | ((with_reducible refine qA 2 ?_); refine CM rfl _ _ rfl (.agg #[.slice A m c, .slice B k d]) _ rfl rfl ?_; intro w_ hX hb_; replace hS := hS.new hb_ (.box _ _ _) ⟨Nat.le_refl _, hX⟩; replace hW := C1 hW hb_; clear hX hb_; (try simp only [Act.put, Act.eval, zz, Value.cells] at hS))
  | ((with_reducible refine qK ?_); refine qL hS Tryz.underlying54 ?_)
  | ((with_reducible refine qA 4 ?_); refine BigFrame.wpList_want rfl fun _ hK => At rfl rfl (by kernel_rfl) ((kb _ _ hS.ro).cell 0 rfl) (hK _ _ ?_))
  | ((with_reducible refine qA 6 ?_); refine BigFrame.wpList_want rfl fun _ hK => BJ (vs := args) rfl rfl HCG.out (by simp [Act.eval, Act.put, HARG.out]) (HQ.out _ ⟨[_], hS⟩) fun e w' ⟨u_, he_, hu_, hb_⟩ => ⟨u_, he_, hK _ _ ?_⟩))
 go_ret
 exact AM.mk rfl (C1 hW hb_)
theorem allc_any {w0 w : World} {F : List Aj} {K : (Nat -> Prop) -> World -> Prop} (v : Value) (l : List (Nat × Nat)) (f : FuncId) (first caps : Array Value) (q : Nat × Nat -> Bool) (hcg : BX Tryz.prog f = true) (hS : St w0 w F K) (kl : ∀ D w, K D w -> AB w D v l)
  (hq : ∀ (x : Value) (z : Nat × Nat) (w : World), z ∈ l -> (∃ F', St w0 w (F' ++ F) fun D w => K D w /\ AO w D x z) -> Calls Tryz.prog f (first.toList ++ [x] ++ caps.toList).toArray w (AM (fun r _ => r = .bool (q z)) w)) :
  Calls Tryz.prog 108 #[v, .func (.func f) first caps] w fun e w' => e = .returned (.bool (l.all q)) /\ St w0 w' F K := by
 have KS := Lib.hid hS.stable
 have HQ := Lib.hid hq
 have HR : Hid ((!l.any fun z => !q z) = l.all q) := Lib.hid (by rw [List.all_eq_not_any_not])
 obtain ⟨R, hR⟩ : ∃ R, R = l.any fun z => !q z := ⟨_, rfl⟩
 rw [<- hR] at HR
 have HRR := Lib.hid hR
 clear hq hR
 go_enter Tryz.func108, Tryz.ntmps108
 go_wp2_with (first
  | (((with_reducible refine qA 3 ?_); refine AA hS rfl _ _ rfl (.func (.func f) first caps) _ rfl rfl ?_; clear hS; intro g3 w_ hS; (try simp only [Act.put, Act.eval, zz, Value.cells] at hS)); replace hS := hS.sealB 0 (by simp) rfl)
  | (go_at_call 53; refine (H7 v l 134 #[] #[.pointer (some ⟨g3, 0, none⟩)] (fun z => !q z) (by kernel_rfl) hS (fun D w h => kl D w h.1) fun x z w hz ⟨F1, h⟩ => all1c_any hcg h (fun D w h => h.1.2) (fun D w h => h.2) fun w' ⟨F2, h'⟩ => HQ.out x z w' hz ⟨F2 ++ F1, (by rw [List.append_assoc]; exact h'.mono (KS.out.and BF) fun D w h => ⟨h.1.1, h.2⟩)⟩).mono ?_; clear hS; rintro e_ w_ ⟨rfl, hS⟩; rw [<- HRR.out]))
 go_ret
 exact ⟨by rw [HR.out]; rfl, hS.mono KS.out fun _ _ h => h.1⟩
theorem all1r_any {w0 w : World} {F : List Aj} {K : (Nat -> Prop) -> World -> Prop} {x : Value} {z : AW} {g : Nat} {f : FuncId} {first caps : Array Value} {b : Bool} (hcg : BX Tryz.prog f = true) (hS : St w0 w F K) (kb : ∀ D w, K D w -> BQ w D g #[.func (.func f) first caps]) (kx : ∀ D w, K D w -> EK w D x z)
  (hq : ∀ w, (∃ F', St w0 w (F' ++ F) K) -> Calls Tryz.prog f (first.toList ++ [x] ++ caps.toList).toArray w (AM (fun r _ => r = .bool b) w)) :
  Calls Tryz.prog 111 #[x, .pointer (some ⟨g, 0, none⟩)] w (AM (fun r _ => r = .bool (!b)) w) := by
 obtain ⟨a0, b0, rfl, ha, hb⟩ := kx _ _ hS.ro
 obtain ⟨A, m, c, rfl⟩ := ha.shape
 obtain ⟨B, k, d, rfl⟩ := hb.shape
 obtain ⟨args, hargs⟩ : ∃ args, args = first.toList ++ [Value.agg #[.bool z.revoke, .slice A m c, .slice B k d, .int .i64 z.target, .int .i64 z.origin]] ++ caps.toList := ⟨_, rfl⟩
 rw [<- hargs] at hq
 have HARG := Lib.hid hargs
 have HQ := Lib.hid hq
 have HCG := Lib.hid hcg
 have HB := Lib.hid hS.below
 have hW := Below.refl w.heap.size w
 clear ha hb hargs hq hcg kx
 go_enter Tryz.func111, Tryz.ntmps111
 go_wp2_with (first
  | ((with_reducible refine qA 2 ?_); refine CM rfl _ _ rfl (.agg #[.bool z.revoke, .slice A m c, .slice B k d, .int .i64 z.target, .int .i64 z.origin]) _ rfl rfl ?_; intro w_ hX hb_; replace hS := hS.new hb_ (.box _ _ _) ⟨Nat.le_refl _, hX⟩; replace hW := C1 hW hb_; clear hX hb_; (try simp only [Act.put, Act.eval, zz, Value.cells] at hS))
  | ((with_reducible refine qK ?_); refine qL hS Tryz.underlying58 ?_)
  | ((with_reducible refine qA 4 ?_); refine BigFrame.wpList_want rfl fun _ hK => At rfl rfl (by kernel_rfl) ((kb _ _ hS.ro).cell 0 rfl) (hK _ _ ?_))
  | ((with_reducible refine qA 6 ?_); refine BigFrame.wpList_want rfl fun _ hK => BJ (vs := args) rfl rfl HCG.out (by simp [Act.eval, Act.put, HARG.out]) (HQ.out _ ⟨[_], hS⟩) fun e w' ⟨u_, he_, hu_, hb_⟩ => ⟨u_, he_, hK _ _ ?_⟩))
 go_ret
 exact AM.mk rfl (C1 hW hb_)
theorem allr_any {w0 w : World} {F : List Aj} {K : (Nat -> Prop) -> World -> Prop} (v : Value) (l : List AW) (f : FuncId) (first caps : Array Value) (q : AW -> Bool) (hcg : BX Tryz.prog f = true) (hS : St w0 w F K) (kl : ∀ D w, K D w -> Bi w D v l)
  (hq : ∀ (x : Value) (z : AW) (w : World), z ∈ l -> (∃ F', St w0 w (F' ++ F) fun D w => K D w /\ EK w D x z) -> Calls Tryz.prog f (first.toList ++ [x] ++ caps.toList).toArray w (AM (fun r _ => r = .bool (q z)) w)) :
  Calls Tryz.prog 70 #[v, .func (.func f) first caps] w fun e w' => e = .returned (.bool (l.all q)) /\ St w0 w' F K := by
 have KS := Lib.hid hS.stable
 have HQ := Lib.hid hq
 have HR : Hid ((!l.any fun z => !q z) = l.all q) := Lib.hid (by rw [List.all_eq_not_any_not])
 obtain ⟨R, hR⟩ : ∃ R, R = l.any fun z => !q z := ⟨_, rfl⟩
 rw [<- hR] at HR
 have HRR := Lib.hid hR
 clear hq hR
 go_enter Tryz.func70, Tryz.ntmps70
 go_wp2_with (first
  | (((with_reducible refine qA 3 ?_); refine AA hS rfl _ _ rfl (.func (.func f) first caps) _ rfl rfl ?_; clear hS; intro g3 w_ hS; (try simp only [Act.put, Act.eval, zz, Value.cells] at hS)); replace hS := hS.sealB 0 (by simp) rfl)
  | (go_at_call 110; refine (anyr_any v l 111 #[] #[.pointer (some ⟨g3, 0, none⟩)] (fun z => !q z) (by kernel_rfl) hS (fun D w h => kl D w h.1) fun x z w hz ⟨F1, h⟩ => all1r_any hcg h (fun D w h => h.1.2) (fun D w h => h.2) fun w' ⟨F2, h'⟩ => HQ.out x z w' hz ⟨F2 ++ F1, (by rw [List.append_assoc]; exact h'.mono (KS.out.and F3) fun D w h => ⟨h.1.1, h.2⟩)⟩).mono ?_; clear hS; rintro e_ w_ ⟨rfl, hS⟩; rw [<- HRR.out]))
 go_ret
 exact ⟨by rw [HR.out]; rfl, hS.mono KS.out fun _ _ h => h.1⟩
theorem all1p_any {w0 w : World} {F : List Aj} {K : (Nat -> Prop) -> World -> Prop} {x : Value} {z : Nat × Nat} {g : Nat} {f : FuncId} {first caps : Array Value} {b : Bool} (hcg : BX Tryz.prog f = true) (hS : St w0 w F K) (kb : ∀ D w, K D w -> BQ w D g #[.func (.func f) first caps]) (kx : x = .agg #[.int .i64 (z.1 : Nat), .int .i64 (z.2 : Nat)])
  (hq : ∀ w, (∃ F', St w0 w (F' ++ F) K) -> Calls Tryz.prog f (first.toList ++ [x] ++ caps.toList).toArray w (AM (fun r _ => r = .bool b) w)) :
  Calls Tryz.prog 132 #[x, .pointer (some ⟨g, 0, none⟩)] w (AM (fun r _ => r = .bool (!b)) w) := by
 subst kx
 obtain ⟨args, hargs⟩ : ∃ args, args = first.toList ++ [Value.agg #[.int .i64 (z.1 : Nat), .int .i64 (z.2 : Nat)]] ++ caps.toList := ⟨_, rfl⟩
 rw [<- hargs] at hq
 have HARG := Lib.hid hargs
 have HQ := Lib.hid hq
 have HCG := Lib.hid hcg
 have HB := Lib.hid hS.below
 have hW := Below.refl w.heap.size w
 clear hargs hq hcg
 go_enter Tryz.func132, Tryz.ntmps132
 go_wp2_with (first
  | ((with_reducible refine qA 2 ?_); refine CM rfl _ _ rfl (.agg #[.int .i64 (z.1 : Nat), .int .i64 (z.2 : Nat)]) _ rfl rfl ?_; intro w_ hX hb_; replace hS := hS.new hb_ (.box _ _ _) ⟨Nat.le_refl _, hX⟩; replace hW := C1 hW hb_; clear hX hb_; (try simp only [Act.put, Act.eval, zz, Value.cells] at hS))
  | ((with_reducible refine qK ?_); refine qL hS Tryz.underlying151 ?_)
  | ((with_reducible refine qA 4 ?_); refine BigFrame.wpList_want rfl fun _ hK => At rfl rfl (by kernel_rfl) ((kb _ _ hS.ro).cell 0 rfl) (hK _ _ ?_))
  | ((with_reducible refine qA 6 ?_); refine BigFrame.wpList_want rfl fun _ hK => BJ (vs := args) rfl rfl HCG.out (by simp [Act.eval, Act.put, HARG.out]) (HQ.out _ ⟨[_], hS⟩) fun e w' ⟨u_, he_, hu_, hb_⟩ => ⟨u_, he_, hK _ _ ?_⟩))
 go_ret
 exact AM.mk rfl (C1 hW hb_)
theorem allp_any {w0 w : World} {F : List Aj} {K : (Nat -> Prop) -> World -> Prop} (v : Value) (l : List (Nat × Nat)) (f : FuncId) (first caps : Array Value) (q : Nat × Nat -> Bool) (hcg : BX Tryz.prog f = true) (hS : St w0 w F K) (kl : ∀ D w, K D w -> Sl w D 2 v l.length (Ah l))
  (hq : ∀ (x : Value) (z : Nat × Nat) (w : World), z ∈ l -> (∃ F', St w0 w (F' ++ F) K) -> x = .agg #[.int .i64 (z.1 : Nat), .int .i64 (z.2 : Nat)] -> Calls Tryz.prog f (first.toList ++ [x] ++ caps.toList).toArray w (AM (fun r _ => r = .bool (q z)) w)) :
  Calls Tryz.prog 104 #[v, .func (.func f) first caps] w fun e w' => e = .returned (.bool (l.all q)) /\ St w0 w' F K := by
 have KS := Lib.hid hS.stable
 have HQ := Lib.hid hq
 have HR : Hid ((!l.any fun z => !q z) = l.all q) := Lib.hid (by rw [List.all_eq_not_any_not])
 obtain ⟨R, hR⟩ : ∃ R, R = l.any fun z => !q z := ⟨_, rfl⟩
 rw [<- hR] at HR
 have HRR := Lib.hid hR
 clear hq hR
 go_enter Tryz.func104, Tryz.ntmps104
 go_wp2_with (first
  | (((with_reducible refine qA 3 ?_); refine AA hS rfl _ _ rfl (.func (.func f) first caps) _ rfl rfl ?_; clear hS; intro g3 w_ hS; (try simp only [Act.put, Act.eval, zz, Value.cells] at hS)); replace hS := hS.sealB 0 (by simp) rfl)
  | (go_at_call 131; refine (anyp_any v l 132 #[] #[.pointer (some ⟨g3, 0, none⟩)] (fun z => !q z) (by kernel_rfl) hS (fun D w h => kl D w h.1) fun x z w hz h hx => all1p_any hcg h (fun D w h => h.2) hx fun w' ⟨F2, h'⟩ => HQ.out x z w' hz ⟨F2, h'.mono KS.out fun D w h => h.1⟩ hx).mono ?_; clear hS; rintro e_ w_ ⟨rfl, hS⟩; rw [<- HRR.out]))
 go_ret
 exact ⟨by rw [HR.out]; rfl, hS.mono KS.out fun _ _ h => h.1⟩
end
section
open Go.RowKit
attribute [local go_sem ↓] Go.wp_at_zero Go.wp_at_succ
set_option maxRecDepth 20000
set_option exponentiation.threshold 5000
structure Af where
 roles : Int
 links : Option (List (Nat × Nat))
 start : Nat
 rules : List AW
 never : List (Nat × Nat)
 goal : List (Nat × Nat)
def Fp (w : World) (D : Nat -> Prop) (v : Value) : Option (List (Nat × Nat)) -> Prop
 | none => v = .pointer none
 | some L => IsH w D v L
theorem BR {v : Value} {o : Option (List (Nat × Nat))} : AK fun D w => Fp w D v o := by
 cases o with
 | none => exact fun _ _ _ _ h _ _ _ => h
 | some L => exact DI
def B7 (w : World) (D : Nat -> Prop) (v : Value) (p : Af) : Prop :=
 ∃ lp s rv nv gv, v = .agg #[.int .i64 p.roles, lp, s, rv, nv, gv] /\ Fp w D lp p.links /\ A6 w D (.agg #[s]) p.start /\ Bi w D rv p.rules /\ AB w D nv p.never /\ AB w D gv p.goal
theorem Cx {v : Value} {p : Af} : AK fun D w => B7 w D v p := fun D D' w w' h a b c => by
 obtain ⟨lp, s, rv, nv, gv, h1, h2, h3, h4, h5, h6⟩ := h
 exact ⟨lp, s, rv, nv, gv, h1, BR D D' w w' h2 a b c, A5 D D' w w' h3 a b c, B9 D D' w w' h4 a b c, AV D D' w w' h5 a b c, AV D D' w w' h6 a b c⟩
structure Af.Ok (p : Af) : Prop where
 rules : p.rules.length <= 100000
 never : p.never.length <= 100000
 goal : p.goal.length <= 100000
 links : ∀ L, p.links = some L -> Hf L /\ L.length <= 900000
def Af.cubes (p : Af) : List (Nat × Nat) := (p.rules.map fun r => (r.yes, r.no)) ++ p.never ++ p.goal
theorem Ax.append {w : World} {D : Nat -> Prop} {xs ys : List Value} {l m : List (Nat × Nat)} (hx : xs.length = l.length * 2) (h : Ax w D xs l) (k : Ax w D ys m) : Ax w D (xs ++ ys) (l ++ m) := fun i y n hi => by
 rcases Nat.lt_or_ge i l.length with h1 | h1
 ·rw [List.getElem?_append_left h1] at hi
  obtain ⟨a, b, q1, q2, q3, q4⟩ := h i y n hi
  exact ⟨a, b, by rw [List.getElem?_append_left (by omega)]; exact q1, by rw [List.getElem?_append_left (by omega)]; exact q2, q3, q4⟩
 ·rw [List.getElem?_append_right h1] at hi
  obtain ⟨a, b, q1, q2, q3, q4⟩ := k _ y n hi
  refine ⟨a, b, ?_, ?_, q3, q4⟩
  ·rw [List.getElem?_append_right (by omega), <- q1]; congr 1; omega
  ·rw [List.getElem?_append_right (by omega), <- q2]; congr 1; omega
theorem Ax.one {w : World} {D : Nat -> Prop} {xs : List Value} {l : List (Nat × Nat)} (hl : xs.length = l.length * 2) (h : Ax w D xs l) : ∀ u ∈ xs, u.oneCell' = true := fun u hu => by
 obtain ⟨i, hi, rfl⟩ := List.getElem_of_mem hu
 have hk : i / 2 < l.length := by omega
 obtain ⟨a, b, q1, q2, q3, q4⟩ := h (i / 2) l[i / 2].1 l[i / 2].2 (by rw [List.getElem?_eq_getElem hk])
 obtain ⟨A, m, c, e3⟩ := q3.shape
 obtain ⟨B, k, d, e4⟩ := q4.shape
 rcases Nat.mod_two_eq_zero_or_one i with e | e
 ·have : i = i / 2 * 2 := by omega
  rw [<- this, List.getElem?_eq_getElem hi] at q1
  injection q1 with q1
  rw [q1, e3]; rfl
 ·have : i = i / 2 * 2 + 1 := by omega
  rw [<- this, List.getElem?_eq_getElem hi] at q2
  injection q2 with q2
  rw [q2, e4]; rfl
theorem Fw {xs : List Value} {l : List (Nat × Nat)} : AK fun D w => Ax w D xs l := fun D D' w w' h a b c i y n hi => by
 obtain ⟨x, z, h1, h2, h3, h4⟩ := h i y n hi
 exact ⟨x, z, h1, h2, A5 D D' w w' h3 a b c, A5 D D' w w' h4 a b c⟩
def cbD (xs xn xg : List Value) (n m k : Nat) : AD := ⟨54, 2, 3, fun s => match s with | 0 => n | 1 => n + m | _ => n + m + k, fun s => match s with | 0 => xs | 1 => xs ++ xn | _ => xs ++ xn ++ xg, fun _ v => .own v 54 2 0 []⟩
def cbK : List (Nat × (Bool × Nat)) := [(3, (true, 1)), (6, (true, 2))]
theorem AN_one1 {kd : List (Nat × (Bool × Nat))} (hk : ∀ x ∈ kd, x.2.1 = true -> 1 <= x.2.2) (w : World) (v : Value) (i : Nat) : AN kd i (w, ⟨[v], []⟩) := by
 unfold AN
 split
 ·rename_i s hs
  unfold FU at hs
  obtain ⟨y, hy, e⟩ := Option.map_eq_some_iff.1 hs
  have := hk y (List.mem_of_find?_eq_some hy) (by rw [e])
  rw [e] at this
  exact this
 ·simp
 ·trivial
set_option maxHeartbeats 1000000 in
theorem J4 {w0 w : World} {F : List Aj} {K : (Nat -> Prop) -> World -> Prop} {v : Value} {p : Af} (hP : p.Ok) (hS : St w0 w F K) (kp : ∀ D w, K D w -> B7 w D v p) :
  Calls Tryz.prog 68 #[v] w fun e w' => ∃ u, e = .returned u /\ St w0 w' F fun D w => K D w /\ AB w D u p.cubes := by
 obtain ⟨R, lk, st, rl, nl, gl⟩ := p
 obtain ⟨lp, s, rv, nv, gv, rfl, -, -, hr, hn, hg⟩ := kp _ _ hS.ro
 dsimp only at hr hn hg
 obtain ⟨hP1, hP2, hP3, -⟩ := hP
 dsimp only at hP1 hP2 hP3
 have KS := Lib.hid hS.stable
 obtain ⟨Ar, cr, rfl, _, _⟩ := hr.shape
 obtain ⟨An, cn, rfl, _, _⟩ := hn.shape
 obtain ⟨Ag, cg, rfl, _, _⟩ := hg.shape
 obtain ⟨xn, hn1, hn2⟩ := hn
 obtain ⟨xg, hg1, hg2⟩ := hg
 obtain ⟨K1, k0, kr, kn, kg, kn2, kg2, hS2⟩ : ∃ K1 : (Nat -> Prop) -> World -> Prop, (∀ D w, K1 D w -> K D w) /\ (∀ D w, K1 D w -> Bi w D (.slice Ar rl.length cr) rl) /\ (∀ D w, K1 D w -> Sl w D 2 (.slice An nl.length cn) nl.length xn) /\ (∀ D w, K1 D w -> Sl w D 2 (.slice Ag gl.length cg) gl.length xg) /\ (∀ D w, K1 D w -> Ax w D xn nl) /\ (∀ D w, K1 D w -> Ax w D xg gl) /\ St w0 w F K1 :=
  ⟨_, fun _ _ h => h.1, fun _ _ h => h.2.1, fun _ _ h => h.2.2.1.1, fun _ _ h => h.2.2.2.1, fun _ _ h => h.2.2.1.2, fun _ _ h => h.2.2.2.2, hS.add (D := CW F) (B9.and (((Az (by decide)).and Fw).and ((Az (by decide)).and Fw))) ⟨hr, ⟨hn1, hn2⟩, hg1, hg2⟩ fun _ h _ => h⟩
 clear hS hr hn1 hn2 hg1 hg2 kp
 have hS := hS2
 clear hS2
 have KS1 := Lib.hid hS.stable
 go_enter Tryz.func68, Tryz.ntmps68
 go_wp2_with (first
  | ((with_reducible refine qA 1 ?_); refine AA hS rfl _ _ rfl (.agg #[.int .i64 R, lp, s, .slice Ar rl.length cr, .slice An nl.length cn, .slice Ag gl.length cg]) _ rfl rfl ?_; clear hS; intro g1 w_ hS; (try simp only [Act.put, Act.eval, zz, Value.cells] at hS))
  | ((with_reducible refine qK ?_); refine qC hS ?_))
 obtain ⟨CS, hCS⟩ : ∃ CS : List (Nat × Nat), CS = rl.map fun r => (r.yes, r.no) := ⟨_, rfl⟩
 have HCS := Lib.hid hCS
 have hlC : CS.length = rl.length := by rw [hCS]; simp
 have HLC := Lib.hid hlC
 clear hCS hlC
 replace hS := hS.nil 54 2
 go_loopw [3, 9] (fun ov i wr => ∃ (j : Nat) (sv : Value) (xs : List Value), i = .int .i64 (j : Nat) /\ sv = ov /\ j <= rl.length /\ St w0 wr (.own sv 54 2 j xs :: .box g1 31 #[.int .i64 R, lp, s, .slice Ar rl.length cr, .slice An nl.length cn, .slice Ag gl.length cg] :: F) fun D w => K1 D w /\ Ax w D xs (CS.take j)) (fun _ i _ => rl.length - (intOf i).toNat)
 case atStart => exact ⟨0, _, [], rfl, rfl, by omega, hS.mono (KS1.out.and Fw) fun D w h => ⟨h, Ax.nil⟩⟩
 case round =>
  clear hS
  obtain ⟨j, sv, xs, rfl, rfl, hj, hS⟩ := hrel
  by_cases hlj : j < rl.length
  ·obtain ⟨b, o, y, n, rfl, _, hb, c0, c1, c2, c3, c4, hy, hn⟩ := (kr _ _ hS.ro.1).at_ hlj
   obtain ⟨Ay, my, cy, rfl⟩ := hy.shape
   obtain ⟨Am, mn, cm, rfl⟩ := hn.shape
   have HT : Hid (CS.take (j + 1) = CS.take j ++ [((rl.getD j AL).yes, (rl.getD j AL).no)]) := Lib.hid (by
    rw [HCS.out, List.take_add_one, List.getElem?_map, List.getElem?_eq_getElem hlj, List.getD_eq_getElem?_getD, List.getElem?_eq_getElem hlj]; rfl)
   have HLT : Hid ((CS.take j).length = j) := Lib.hid (by rw [List.length_take, HLC.out]; omega)
   replace hS := hS.add (D := CW (.own sv 54 2 j xs :: .box g1 31 #[.int .i64 R, lp, s, .slice (some ⟨b, o, none⟩) rl.length cr, .slice An nl.length cn, .slice Ag gl.length cg] :: F)) (A5.and A5) ⟨hy, hn⟩ fun _ h _ => h
   clear hy hn
   generalize rl.getD j AL = z at *
   have hj1 : j <= 100000 := by omega
   go_wp2_with (first
    | ((with_reducible refine qB ?_); refine qc ?_ ?_ <;> intro h_ <;> go_prune)
    | ((with_reducible refine qA 12 ?_); refine BigFrame.wpList_want rfl fun _ hK => B5 (cs := [.bool z.revoke, .slice Ay my cy, .slice Am mn cm, .int .i64 z.target, .int .i64 z.origin]) rfl rfl (J0 c0 c1 c2 c3 c4) Tryz.underlying58 rfl (by kernel_rfl) (hK _ _ ?_))
    | ((with_reducible refine qA 5 ?_); refine qa hS #[.bool false, .slice none 0 0, .slice none 0 0, .int .i64 0, .int .i64 0] ?_; clear hS; intro g5 w_ hS)
    | ((with_reducible refine qM ?_); (first | refine qS hS ?_ | refine qT hS ?_); clear hS; intro w_ hS; (try simp only [Act.put, Act.eval, zz, Value.cells] at hS))
    | ((with_reducible refine qk 54 ?_); refine st_cubel hS 0 rfl _ _ rfl _ _ rfl _ _ rfl _ _ rfl rfl Tryz.underlying54 rfl (by kernel_rfl) ?_)
    | ((with_reducible show wpList _ _ _ (⟨_, .buildSlice _ 1 _, _, _, _, _⟩ :: _) _ _); refine DV hS 1 rfl rfl _ _ _ _ rfl rfl EW _ _ _ (.agg #[.slice Ay my cy, .slice Am mn cm]) #[.slice Ay my cy, .slice Am mn cm] rfl (by kernel_rfl) rfl rfl rfl rfl (by intro u hu; simp at hu; first | (subst hu; rfl) | (rcases hu with rfl | rfl <;> rfl)) (by omega) (by omega) ?_; clear hS; intro z_ v_ w_ hS; (try simp only [Act.put, Act.eval, zz, Value.cells] at hS)))
   have hcl := (hS.own 1 rfl).1
   refine ⟨⟨j + 1, _, xs ++ [.slice Ay my cy, .slice Am mn cm], by go_num, rfl, hlj, ?_⟩, by simp [intOf]; omega⟩
   rw [HT.out]
   exact (hS.sub (F' := _ :: _ :: F) (List.sublist_cons_self _ _)).mono (KS1.out.and Fw) fun D w h => ⟨h.1.1, h.1.2.push (by rw [HLT.out]; simp at hcl; omega) h.2.1 h.2.2⟩
  ·obtain rfl : rl.length = j := by omega
   have hCT : CS.take rl.length = CS := by rw [<- HLC.out, List.take_length]
   rw [hCT] at hS
   clear hCT
   go_wp2_with (first | ((with_reducible refine qB ?_); refine qc ?_ ?_ <;> intro h_ <;> go_prune))
   have hxl := (hS.own 0 rfl).1
   have hA0 : Hg ⟨[sv], []⟩ 0 sv := ⟨[], [], rfl, rfl⟩
   have hJ0 : AJ w0 (.box g1 31 #[.int .i64 R, lp, s, .slice Ar rl.length cr, .slice An nl.length cn, .slice Ag gl.length cg] :: F) (fun D w => K1 D w /\ Ax w D xs CS) (cbD xs xn xg rl.length nl.length gl.length) (wr.drew, ⟨[sv], []⟩) := ⟨hS.drew, show 1 <= 3 by decide⟩
   have hN0 := AN_one1 (kd := cbK) (by decide) wr.drew sv
   have hRr := @AR.refl w0 (.box g1 31 #[.int .i64 R, lp, s, .slice Ar rl.length cr, .slice An nl.length cn, .slice Ag gl.length cg] :: F) (fun D w => K1 D w /\ Ax w D xs CS) (cbD xs xn xg rl.length nl.length gl.length)
   have hRt := @AR.trans w0 (.box g1 31 #[.int .i64 R, lp, s, .slice Ar rl.length cr, .slice An nl.length cn, .slice Ag gl.length cg] :: F) (fun D w => K1 D w /\ Ax w D xs CS) (cbD xs xn xg rl.length nl.length gl.length)
   have ON : Hid (∀ u ∈ xn, u.oneCell' = true) := Lib.hid ((kn2 _ _ hS.ro.1).one (kn _ _ hS.ro.1).1)
   have OG : Hid (∀ u ∈ xg, u.oneCell' = true) := Lib.hid ((kg2 _ _ hS.ro.1).one (kg _ _ hS.ro.1).1)
   have hb0 : Hid (rl.length + nl.length <= 1000000000000 /\ (rl.length + nl.length) * 48 <= 140737488355328 /\ rl.length + nl.length + gl.length <= 1000000000000 /\ (rl.length + nl.length + gl.length) * 48 <= 140737488355328) := Lib.hid (by omega)
   clear hS
   refine EN (AR w0 (.box g1 31 #[.int .i64 R, lp, s, .slice Ar rl.length cr, .slice An nl.length cn, .slice Ag gl.length cg] :: F) (fun D w => K1 D w /\ Ax w D xs CS) (cbD xs xn xg rl.length nl.length gl.length)) (AN cbK) (⟨[sv], []⟩) hRr hRt [.i sv, .q g1 4, .i (.slice An nl.length cn), .s (fun v w => Hg w.2 1 v) fun v w w' h hb => h.mono hb.2.1, .q g1 5, .i (.slice Ag gl.length cg), .s (fun v w => Hg w.2 2 v) fun v w w' h hb => h.mono hb.2.1, .s (fun v w => Hg w.2 2 v) fun v w w' h hb => h.mono hb.2.1] ?_ ⟨uM, uF, uC (h := fun w hW hN => ((hW.1 hJ0).1.holds (.box g1 31 #[.int .i64 R, lp, s, .slice Ar rl.length cr, .slice An nl.length cn, .slice Ag gl.length cg]) (List.mem_append_right _ (List.mem_cons_self ..))).2.cell 4), ?_, uF, uC (h := fun w hW hN => ((hW.1 hJ0).1.holds (.box g1 31 #[.int .i64 R, lp, s, .slice Ar rl.length cr, .slice An nl.length cn, .slice Ag gl.length cg]) (List.mem_append_right _ (List.mem_cons_self ..))).2.cell 5), ?_, uA, trivial⟩ ?_
   ·first | assumption | (intro i; (try dsimp only); split <;> first | trivial | assumption | (left; assumption))
   ·refine uG fun b__ w hW hN hE K hK => ?_
    have e19 := hE 19
    have e21 := hE 21
    exact Cg (kd := cbK) (by decide) rfl rfl EW hN (by rw [e19]; exact hA0.mono hW.2.1) (hW.1 hJ0) (by rw [e21]; exact kn _ _ (hW.1 hJ0).1.ro.1) ON.out rfl rfl (by exact hb0.out.1) (by exact hb0.out.2.1) (show 0 + 1 < 3 by decide) hK
   ·refine uG fun b__ w hW hN hE K hK => ?_
    have e22 := hE 22
    have e24 := hE 24
    exact Cg (kd := cbK) (by decide) rfl rfl EW hN e22 (hW.1 hJ0) (by rw [e24]; exact kg _ _ (hW.1 hJ0).1.ro.1) OG.out rfl rfl (by exact hb0.out.2.2.1) (by exact hb0.out.2.2.2) (show 1 + 1 < 3 by decide) hK
   ·intro vs wz hW hT
    obtain ⟨e19, e20, e21, e22, e23, e24, e25, e2, -⟩ := hT
    have bx : (fun _ : Nat => True) 0 := trivial
    simp only [AE, Act.put, zz, ze]
    have hJ := (hW.1 hJ0).last e2 rfl
    simp only [cbD] at hJ
    have hS := (hJ.freeze 0 (by decide) rfl).sub (F' := F) (List.sublist_cons_self _ _)
    generalize vs 2 = v2 at *
    generalize wz.1 = wf at *
    clear hW hJ0 hRr hRt hN0 hA0 hJ e2
    go_wp2_with fail
    go_ret
    have e : (Af.cubes ⟨R, lk, st, rl, nl, gl⟩) = CS ++ nl ++ gl := by rw [HCS.out]; rfl
    have el : (CS ++ nl ++ gl).length = rl.length + nl.length + gl.length := by rw [List.length_append, List.length_append, HLC.out]
    refine ⟨_, rfl, hS.mono (KS.out.and AV) fun D w h => ⟨k0 _ _ h.1.1, ?_⟩⟩
    rw [e]
    refine ⟨_, by rw [el]; exact h.2, Ax.append ?_ (Ax.append ?_ h.1.2 (kn2 _ _ h.1.1)) (kg2 _ _ h.1.1)⟩
    ·have := (kn _ _ h.1.1).1
     rw [List.length_append, List.length_append, HLC.out]; omega
    ·rw [HLC.out]; exact hxl
end
section
open Go.RowKit
attribute [local go_sem ↓] Go.wp_at_zero Go.wp_at_succ
set_option maxRecDepth 20000
set_option exponentiation.threshold 5000
theorem IX (q : Addr) (w : World) : (binOp .neq 24 (.pointer (some q)) (.pointer none)).run Tryz.prog w = .ok (.bool true) w := rfl
theorem run_nnil (w : World) : (binOp .neq 24 (.pointer none) (.pointer none)).run Tryz.prog w = .ok (.bool false) w := rfl
noncomputable def goodB (p : Af) (N : Nat) : Bool := match p.links with
 | none => false
 | some L => !(p.never.any fun z => Bv z (closM L N))
noncomputable def reachB (p : Af) (N : Nat) : Bool := match p.links with
 | none => false
 | some L => p.goal.any fun z => Bv z (closM L N)
set_option maxHeartbeats 1000000 in
theorem Jh {w0 : World} {D E : Nat -> Prop} {v u : Value} {p : Af} {N : Nat} (hp : B7 w0 D v p) (hP : p.Ok) (hT : Bx w0) (hu : A6 w0 E u N) : Calls Tryz.prog 71 #[v, u] w0 (AM (fun r _ => r = .bool (goodB p N)) w0) := by
 obtain ⟨R, lk, st, rl, nl, gl⟩ := p
 obtain ⟨lp, s, rv, nv, gv, rfl, h1, h2, h3, h4, h5⟩ := hp
 dsimp only at h1 h2 h3 h4 h5
 obtain ⟨Cs, ns, cs, rfl⟩ := h2.shape
 obtain ⟨Ar, cr, rfl, _, _⟩ := h3.shape
 obtain ⟨An, cn, rfl, _, _⟩ := h4.shape
 obtain ⟨Ag, cg, rfl, _, _⟩ := h5.shape
 obtain ⟨C, e, lw, rfl, -⟩ := hu.parts
 obtain ⟨n, hn⟩ : ∃ n, n = lw.length := ⟨_, rfl⟩
 rw [<- hn] at hu ⊢
 clear hn
 obtain ⟨K, kh, ks, kr, kn, kg, kt, ku, hS⟩ : ∃ K : (Nat -> Prop) -> World -> Prop, (∀ D w, K D w -> Fp w D lp lk) /\ (∀ D w, K D w -> A6 w D (.agg #[.slice Cs ns cs]) st) /\ (∀ D w, K D w -> Bi w D (.slice Ar rl.length cr) rl) /\ (∀ D w, K D w -> AB w D (.slice An nl.length cn) nl) /\ (∀ D w, K D w -> AB w D (.slice Ag gl.length cg) gl) /\ (∀ D w, K D w -> Bx w) /\ (∀ D w, K D w -> A6 w D (.agg #[.slice C n e]) N) /\ St w0 w0 [] K :=
  ⟨fun D w => ((Fp w D lp lk /\ A6 w D (.agg #[.slice Cs ns cs]) st) /\ Bi w D (.slice Ar rl.length cr) rl /\ AB w D (.slice An nl.length cn) nl /\ AB w D (.slice Ag gl.length cg) gl) /\ (Bx w /\ D 0) /\ A6 w D (.agg #[.slice C n e]) N, fun _ _ h => h.1.1.1, fun _ _ h => h.1.1.2, fun _ _ h => h.1.2.1, fun _ _ h => h.1.2.2.1, fun _ _ h => h.1.2.2.2, fun _ _ h => h.2.1.1, fun _ _ h => h.2.2,
   St.start (D := fun _ => True) (((BR.and A5).and (B9.and (AV.and AV))).and (C5.and A5)) ⟨⟨⟨BR D _ w0 w0 h1 (Nat.le_refl _) (fun _ _ _ _ h => h) fun _ _ _ _ => trivial, h2.imp fun _ _ _ => trivial⟩, B9 D _ w0 w0 h3 (Nat.le_refl _) (fun _ _ _ _ h => h) fun _ _ _ _ => trivial, h4.imp fun _ _ _ => trivial, h5.imp fun _ _ _ => trivial⟩, ⟨hT, trivial⟩, hu.imp fun _ _ _ => trivial⟩⟩
 clear h1 h2 h3 h4 h5 hu hT
 have HL := Lib.hid hP.links
 clear hP
 cases lk with
 | none =>
  obtain rfl := kh _ _ hS.ro
  go_enter Tryz.func71, Tryz.ntmps71
  go_wp2_with (first
   | ((with_reducible refine qA 2 ?_); refine AA hS rfl _ _ rfl (.agg #[.int .i64 R, .pointer none, .slice Cs ns cs, .slice Ar rl.length cr, .slice An nl.length cn, .slice Ag gl.length cg]) _ rfl rfl ?_; clear hS; intro g2 w_ hS; (try simp only [Act.put, Act.eval, zz, Value.cells] at hS))
   | ((with_reducible refine qA 3 ?_); refine AA hS rfl _ _ rfl (.agg #[.slice C n e]) _ rfl rfl ?_; clear hS; intro g3 w_ hS; (try simp only [Act.put, Act.eval, zz, Value.cells] at hS)))
  refine Ci [.q g2 1, .i (.pointer none), .b false, .b false, .t, .t, .t, .t, .t, .t, .t, .t, .b false, .b false] ⟨uF, uC (h := fun w hW hN => (hS.ext hW).shut 1 rfl 1 rfl), uB (h := fun w hW hN => run_nnil _), uM, uW, uW, uW, uW, uW, uW, uW, uW, uP, uA, trivial⟩ ?_
  ·intro vs wz hW hT
   obtain ⟨e5, e6, e7, e8, e17, e4, -⟩ := hT
   simp only [AE, Act.put, zz, ze]
   rw [e4]
   go_wp2_with fail
   go_ret
   exact AM.mk rfl (C1 hS.below hW)
 | some L =>
  have hH := Lib.hid (HL.out L rfl).1
  obtain ⟨q, o, rfl, -⟩ := id (kh _ _ hS.ro)
  obtain ⟨b, hb⟩ : ∃ b, b = nl.any fun z => Bv z (closM L N) := ⟨_, rfl⟩
  have HB := Lib.hid hb
  have HR : Hid (goodB ⟨R, some L, st, rl, nl, gl⟩ N = !b) := Lib.hid (by rw [hb]; rfl)
  clear hb HL
  go_enter Tryz.func71, Tryz.ntmps71
  go_wp2_with (first
   | ((with_reducible refine qA 2 ?_); refine AA hS rfl _ _ rfl (.agg #[.int .i64 R, .pointer (some ⟨q, 0, none⟩), .slice Cs ns cs, .slice Ar rl.length cr, .slice An nl.length cn, .slice Ag gl.length cg]) _ rfl rfl ?_; clear hS; intro g2 w_ hS; (try simp only [Act.put, Act.eval, zz, Value.cells] at hS))
   | ((with_reducible refine qA 3 ?_); refine AA hS rfl _ _ rfl (.agg #[.slice C n e]) _ rfl rfl ?_; clear hS; intro g3 w_ hS; (try simp only [Act.put, Act.eval, zz, Value.cells] at hS)))
  refine Ci [.q g2 1, .q q 0, .b true, .b true, .q g2 4, .i (.slice An nl.length cn), .q g2 1, .q q 0, .i (.agg #[.slice C n e]), .s (fun v w => A6 w (fun _ => True) v (closM L N)) fun v w w' h hb => h.ext hb, .i (.bool b), .i (.bool (!b)), .i (.bool (!b)), .i (.bool (!b))] ⟨uF, uC (h := fun w hW hN => (hS.ext hW).shut 1 rfl 1 rfl), uB (h := fun w hW hN => IX _ _), uM, uF, uC (h := fun w hW hN => (hS.ext hW).shut 1 rfl 4 rfl), uF, uC (h := fun w hW hN => (hS.ext hW).shut 1 rfl 1 rfl), uR (h := fun w hW hN => (hS.ext hW).box 0 rfl), ?_, ?_, uU, uP, uA, trivial⟩ ?_
  ·refine uT fun b__ w hW hE K hK => ?_
   have e12 := hE 12
   have e13 := hE 13
   exact AC rfl (by kernel_rfl) (by simp only [List.map_cons, List.map_nil, e12, e13]) (Eo (kh _ _ (hS.ext hW).ro) (kt _ _ (hS.ext hW).ro) hH.out (ku _ _ (hS.ext hW).ro)) fun v w' h hb => hK v w' (h.imp fun _ _ _ => trivial) hb
  ·refine uT fun b__ w hW hE K hK => ?_
   have e10 := hE 10
   have e14 := hE 14
   exact AC rfl (by kernel_rfl) (by simp only [List.map_cons, List.map_nil, e10]) (some_any (kn _ _ (hS.ext hW).ro) e14) fun v w' h hb => hK v w' (h.trans (by rw [HB.out])) hb
  ·intro vs wz hW hT
   obtain ⟨e5, e6, e7, e8, e9, e10, e11, e12, e13, e14, e15, e16, e17, e4, -⟩ := hT
   have bx : (fun _ : Nat => True) 0 := trivial
   simp only [AE, Act.put, zz, ze]
   rw [e4]
   go_wp2_with fail
   go_ret
   exact AM.mk (by rw [HR.out]; rfl) (C1 hS.below hW)
set_option maxHeartbeats 1000000 in
theorem CZ {w0 : World} {D E : Nat -> Prop} {v u : Value} {p : Af} {N : Nat} (hp : B7 w0 D v p) (hP : p.Ok) (hT : Bx w0) (hu : A6 w0 E u N) : Calls Tryz.prog 25 #[v, u] w0 (AM (fun r _ => r = .bool (reachB p N)) w0) := by
 obtain ⟨R, lk, st, rl, nl, gl⟩ := p
 obtain ⟨lp, s, rv, nv, gv, rfl, h1, h2, h3, h4, h5⟩ := hp
 dsimp only at h1 h2 h3 h4 h5
 obtain ⟨Cs, ns, cs, rfl⟩ := h2.shape
 obtain ⟨Ar, cr, rfl, _, _⟩ := h3.shape
 obtain ⟨An, cn, rfl, _, _⟩ := h4.shape
 obtain ⟨Ag, cg, rfl, _, _⟩ := h5.shape
 obtain ⟨C, e, lw, rfl, -⟩ := hu.parts
 obtain ⟨n, hn⟩ : ∃ n, n = lw.length := ⟨_, rfl⟩
 rw [<- hn] at hu ⊢
 clear hn
 obtain ⟨K, kh, ks, kr, kn, kg, kt, ku, hS⟩ : ∃ K : (Nat -> Prop) -> World -> Prop, (∀ D w, K D w -> Fp w D lp lk) /\ (∀ D w, K D w -> A6 w D (.agg #[.slice Cs ns cs]) st) /\ (∀ D w, K D w -> Bi w D (.slice Ar rl.length cr) rl) /\ (∀ D w, K D w -> AB w D (.slice An nl.length cn) nl) /\ (∀ D w, K D w -> AB w D (.slice Ag gl.length cg) gl) /\ (∀ D w, K D w -> Bx w) /\ (∀ D w, K D w -> A6 w D (.agg #[.slice C n e]) N) /\ St w0 w0 [] K :=
  ⟨fun D w => ((Fp w D lp lk /\ A6 w D (.agg #[.slice Cs ns cs]) st) /\ Bi w D (.slice Ar rl.length cr) rl /\ AB w D (.slice An nl.length cn) nl /\ AB w D (.slice Ag gl.length cg) gl) /\ (Bx w /\ D 0) /\ A6 w D (.agg #[.slice C n e]) N, fun _ _ h => h.1.1.1, fun _ _ h => h.1.1.2, fun _ _ h => h.1.2.1, fun _ _ h => h.1.2.2.1, fun _ _ h => h.1.2.2.2, fun _ _ h => h.2.1.1, fun _ _ h => h.2.2,
   St.start (D := fun _ => True) (((BR.and A5).and (B9.and (AV.and AV))).and (C5.and A5)) ⟨⟨⟨BR D _ w0 w0 h1 (Nat.le_refl _) (fun _ _ _ _ h => h) fun _ _ _ _ => trivial, h2.imp fun _ _ _ => trivial⟩, B9 D _ w0 w0 h3 (Nat.le_refl _) (fun _ _ _ _ h => h) fun _ _ _ _ => trivial, h4.imp fun _ _ _ => trivial, h5.imp fun _ _ _ => trivial⟩, ⟨hT, trivial⟩, hu.imp fun _ _ _ => trivial⟩⟩
 clear h1 h2 h3 h4 h5 hu hT
 have HL := Lib.hid hP.links
 clear hP
 cases lk with
 | none =>
  obtain rfl := kh _ _ hS.ro
  go_enter Tryz.func25, Tryz.ntmps25
  go_wp2_with (first
   | ((with_reducible refine qA 2 ?_); refine AA hS rfl _ _ rfl (.agg #[.int .i64 R, .pointer none, .slice Cs ns cs, .slice Ar rl.length cr, .slice An nl.length cn, .slice Ag gl.length cg]) _ rfl rfl ?_; clear hS; intro g2 w_ hS; (try simp only [Act.put, Act.eval, zz, Value.cells] at hS))
   | ((with_reducible refine qA 3 ?_); refine AA hS rfl _ _ rfl (.agg #[.slice C n e]) _ rfl rfl ?_; clear hS; intro g3 w_ hS; (try simp only [Act.put, Act.eval, zz, Value.cells] at hS)))
  refine Ci [.q g2 1, .i (.pointer none), .b false, .b false, .t, .t, .t, .t, .t, .t, .t, .b false, .b false] ⟨uF, uC (h := fun w hW hN => (hS.ext hW).shut 1 rfl 1 rfl), uB (h := fun w hW hN => run_nnil _), uM, uW, uW, uW, uW, uW, uW, uW, uP, uA, trivial⟩ ?_
  ·intro vs wz hW hT
   obtain ⟨e5, e6, e7, e8, e16, e4, -⟩ := hT
   simp only [AE, Act.put, zz, ze]
   rw [e4]
   go_wp2_with fail
   go_ret
   exact AM.mk rfl (C1 hS.below hW)
 | some L =>
  have hH := Lib.hid (HL.out L rfl).1
  obtain ⟨q, o, rfl, -⟩ := id (kh _ _ hS.ro)
  obtain ⟨b, hb⟩ : ∃ b, b = gl.any fun z => Bv z (closM L N) := ⟨_, rfl⟩
  have HB := Lib.hid hb
  have HR : Hid (reachB ⟨R, some L, st, rl, nl, gl⟩ N = b) := Lib.hid (by rw [hb]; rfl)
  clear hb HL
  go_enter Tryz.func25, Tryz.ntmps25
  go_wp2_with (first
   | ((with_reducible refine qA 2 ?_); refine AA hS rfl _ _ rfl (.agg #[.int .i64 R, .pointer (some ⟨q, 0, none⟩), .slice Cs ns cs, .slice Ar rl.length cr, .slice An nl.length cn, .slice Ag gl.length cg]) _ rfl rfl ?_; clear hS; intro g2 w_ hS; (try simp only [Act.put, Act.eval, zz, Value.cells] at hS))
   | ((with_reducible refine qA 3 ?_); refine AA hS rfl _ _ rfl (.agg #[.slice C n e]) _ rfl rfl ?_; clear hS; intro g3 w_ hS; (try simp only [Act.put, Act.eval, zz, Value.cells] at hS)))
  refine Ci [.q g2 1, .q q 0, .b true, .b true, .q g2 5, .i (.slice Ag gl.length cg), .q g2 1, .q q 0, .i (.agg #[.slice C n e]), .s (fun v w => A6 w (fun _ => True) v (closM L N)) fun v w w' h hb => h.ext hb, .i (.bool b), .i (.bool b), .i (.bool b)] ⟨uF, uC (h := fun w hW hN => (hS.ext hW).shut 1 rfl 1 rfl), uB (h := fun w hW hN => IX _ _), uM, uF, uC (h := fun w hW hN => (hS.ext hW).shut 1 rfl 5 rfl), uF, uC (h := fun w hW hN => (hS.ext hW).shut 1 rfl 1 rfl), uR (h := fun w hW hN => (hS.ext hW).box 0 rfl), ?_, ?_, uP, uA, trivial⟩ ?_
  ·refine uT fun b__ w hW hE K hK => ?_
   have e12 := hE 12
   have e13 := hE 13
   exact AC rfl (by kernel_rfl) (by simp only [List.map_cons, List.map_nil, e12, e13]) (Eo (kh _ _ (hS.ext hW).ro) (kt _ _ (hS.ext hW).ro) hH.out (ku _ _ (hS.ext hW).ro)) fun v w' h hb => hK v w' (h.imp fun _ _ _ => trivial) hb
  ·refine uT fun b__ w hW hE K hK => ?_
   have e10 := hE 10
   have e14 := hE 14
   exact AC rfl (by kernel_rfl) (by simp only [List.map_cons, List.map_nil, e10]) (some_any (kg _ _ (hS.ext hW).ro) e14) fun v w' h hb => hK v w' (h.trans (by rw [HB.out])) hb
  ·intro vs wz hW hT
   obtain ⟨e5, e6, e7, e8, e9, e10, e11, e12, e13, e14, e15, e16, e4, -⟩ := hT
   have bx : (fun _ : Nat => True) 0 := trivial
   simp only [AE, Act.put, zz, ze]
   rw [e4]
   go_wp2_with fail
   go_ret
   exact AM.mk (by rw [HR.out]; rfl) (C1 hS.below hW)
end
section
open Go.RowKit
attribute [local go_sem ↓] Go.wp_at_zero Go.wp_at_succ
set_option maxRecDepth 20000
set_option exponentiation.threshold 5000
def revB (z : AW) : Bool := !z.revoke || (z.yes == 0 && z.no == 0)
theorem chk1_any {w : World} {D : Nat -> Prop} {x : Value} {z : AW} (hx : EK w D x z) : Calls Tryz.prog 66 #[x] w (AM (fun r _ => r = .bool (revB z)) w) := by
 obtain ⟨a, b, rfl, ha, hb⟩ := hx
 obtain ⟨rv, y, n, t, o⟩ := z
 dsimp only at ha hb
 obtain ⟨A, m, c, rfl⟩ := ha.shape
 obtain ⟨B, k, d, rfl⟩ := hb.shape
 obtain ⟨K, ka, kb, hS⟩ : ∃ K : (Nat -> Prop) -> World -> Prop, (∀ D w, K D w -> A6 w D (.agg #[.slice A m c]) y) /\ (∀ D w, K D w -> A6 w D (.agg #[.slice B k d]) n) /\ St w w [] K :=
  ⟨fun D w => A6 w D (.agg #[.slice A m c]) y /\ A6 w D (.agg #[.slice B k d]) n, fun _ _ h => h.1, fun _ _ h => h.2, St.start (D := fun _ => True) (A5.and A5) ⟨ha.imp fun _ _ _ => trivial, hb.imp fun _ _ _ => trivial⟩⟩
 clear ha hb
 obtain ⟨b1, hb1⟩ : ∃ b, b = (y == 0) := ⟨_, rfl⟩
 obtain ⟨b2, hb2⟩ : ∃ b, b = (n == 0) := ⟨_, rfl⟩
 have HR : Hid (revB ⟨rv, y, n, t, o⟩ = (!rv || (b1 && b2))) := Lib.hid (by rw [hb1, hb2]; rfl)
 have HB1 := Lib.hid hb1
 have HB2 := Lib.hid hb2
 clear hb1 hb2
 go_enter Tryz.func66, Tryz.ntmps66
 cases rv <;> cases b1
 all_goals
  go_wp2_with (first
   | ((with_reducible refine qA 1 ?_); refine AA hS rfl _ _ rfl (.agg #[.bool _, .slice A m c, .slice B k d, .int .i64 t, .int .i64 o]) _ rfl rfl ?_; clear hS; intro g1 w_ hS; (try simp only [Act.put, Act.eval, zz, Value.cells] at hS))
   | ((with_reducible refine qk 27 ?_); first | (refine A7 hS 0 rfl _ _ rfl _ _ rfl _ _ rfl _ (by first | rfl | assumption) Tryz.underlying27 rfl (by kernel_rfl) ?_) | (refine A7 hS 1 rfl _ _ rfl _ _ rfl _ _ rfl _ (by first | rfl | assumption) Tryz.underlying27 rfl (by kernel_rfl) ?_) | (refine A7 hS 2 rfl _ _ rfl _ _ rfl _ _ rfl _ (by first | rfl | assumption) Tryz.underlying27 rfl (by kernel_rfl) ?_) | (refine A7 hS 3 rfl _ _ rfl _ _ rfl _ _ rfl _ (by first | rfl | assumption) Tryz.underlying27 rfl (by kernel_rfl) ?_) | (refine A7 hS 4 rfl _ _ rfl _ _ rfl _ _ rfl _ (by first | rfl | assumption) Tryz.underlying27 rfl (by kernel_rfl) ?_) | (refine A7 hS 5 rfl _ _ rfl _ _ rfl _ _ rfl _ (by first | rfl | assumption) Tryz.underlying27 rfl (by kernel_rfl) ?_))
   | ((with_reducible refine qK ?_); refine qC hS ?_)
   | (go_at_call 24; first
      | ((with_reducible show Calls _ _ #[.agg #[.slice A m c]] _ _); refine (DE _ y _ _ (ka _ _ hS.ro)).mono ?_; rw [<- HB1.out]; rintro r_ w_ ⟨_, rfl, rfl, hb_⟩; replace hS := hS.ext hb_; clear hb_)
      | ((with_reducible show Calls _ _ #[.agg #[.slice B k d]] _ _); refine (DE _ n _ _ (kb _ _ hS.ro)).mono ?_; rw [<- HB2.out]; rintro r_ w_ ⟨_, rfl, rfl, hb_⟩; replace hS := hS.ext hb_; clear hb_)))
  go_ret
  exact AM.mk (by rw [HR.out]; rfl) hS.below
theorem kn1_any {w : World} {E : Nat -> Prop} {x sv : Value} {z : Nat × Nat} {N g : Nat} (hx : x = .agg #[.int .i64 (z.1 : Nat), .int .i64 (z.2 : Nat)]) (hb : BQ w E g #[sv]) (hs : A6 w E (.agg #[sv]) N) : Calls Tryz.prog 106 #[x, .pointer (some ⟨g, 0, none⟩)] w (AM (fun r _ => r = .bool (Bn N z.1 && Bn N z.2)) w) := by
 subst hx
 obtain ⟨C, l, e, rfl⟩ := hs.shape
 obtain ⟨K, kb, kc, hS⟩ : ∃ K : (Nat -> Prop) -> World -> Prop, (∀ D w, K D w -> BQ w D g #[.slice C l e]) /\ (∀ D w, K D w -> A6 w D (.agg #[.slice C l e]) N) /\ St w w [] K :=
  ⟨fun D w => BQ w D g #[.slice C l e] /\ A6 w D (.agg #[.slice C l e]) N, fun _ _ h => h.1, fun _ _ h => h.2, St.start (D := fun _ => True) (AU.and A5) ⟨AU E _ w w hb (Nat.le_refl _) (fun _ _ _ _ h => h) fun _ _ _ _ => trivial, hs.imp fun _ _ _ => trivial⟩⟩
 clear hb hs
 obtain ⟨za, zb⟩ := z
 dsimp only
 obtain ⟨b1, hb1⟩ : ∃ b, b = Bn N za := ⟨_, rfl⟩
 rw [<- hb1]
 have HB1 := Lib.hid hb1
 obtain ⟨b2, hb2⟩ : ∃ b, b = Bn N zb := ⟨_, rfl⟩
 rw [<- hb2]
 have HB2 := Lib.hid hb2
 clear hb1 hb2
 go_enter Tryz.func106, Tryz.ntmps106
 cases b1
 ·go_wp2_with (first
   | ((with_reducible refine qA 2 ?_); refine AA hS rfl _ _ rfl (.agg #[.int .i64 (za : Nat), .int .i64 (zb : Nat)]) _ rfl rfl ?_; clear hS; intro g2 w_ hS; (try simp only [Act.put, Act.eval, zz, Value.cells] at hS))
   | ((with_reducible refine qk 27 ?_); refine BigFrame.wpList_want rfl fun _ hK => B5 (cs := [.slice C l e]) rfl rfl (Hz ((kb _ _ hS.ro).cell 0 rfl)) Tryz.underlying27 rfl (by kernel_rfl) (hK _ _ ?_))
   | ((with_reducible refine qK ?_); refine qC hS ?_)
   | (go_at_call 47; refine (Cb _ N za _ _ (kc _ _ hS.ro)).mono ?_; rw [<- HB1.out]; rintro r_ w_ ⟨_, rfl, rfl, hb_⟩; replace hS := hS.ext hb_; clear hb_))
  go_ret
  exact AM.mk rfl hS.below
 ·go_wp2_with (first
   | ((with_reducible refine qA 2 ?_); refine AA hS rfl _ _ rfl (.agg #[.int .i64 (za : Nat), .int .i64 (zb : Nat)]) _ rfl rfl ?_; clear hS; intro g2 w_ hS; (try simp only [Act.put, Act.eval, zz, Value.cells] at hS))
   | ((with_reducible refine qk 27 ?_); refine BigFrame.wpList_want rfl fun _ hK => B5 (cs := [.slice C l e]) rfl rfl (Hz ((kb _ _ hS.ro).cell 0 rfl)) Tryz.underlying27 rfl (by kernel_rfl) (hK _ _ ?_))
   | ((with_reducible refine qK ?_); refine qC hS ?_))
  refine (Cb _ N za _ _ (kc _ _ hS.ro)).mono ?_
  rw [<- HB1.out]
  rintro r_ w_ ⟨_, rfl, rfl, hb_⟩
  replace hS := hS.ext hb_
  clear hb_
  go_wp2_with (first
   | ((with_reducible refine qk 27 ?_); refine BigFrame.wpList_want rfl fun _ hK => B5 (cs := [.slice C l e]) rfl rfl (Hz ((kb _ _ hS.ro).cell 0 rfl)) Tryz.underlying27 rfl (by kernel_rfl) (hK _ _ ?_))
   | ((with_reducible refine qK ?_); refine qC hS ?_))
  refine (Cb _ N zb _ _ (kc _ _ hS.ro)).mono ?_
  rw [<- HB2.out]
  rintro r_ w_ ⟨_, rfl, rfl, hb_⟩
  replace hS := hS.ext hb_
  clear hb_
  go_wp2_with fail
  go_ret
  exact AM.mk rfl hS.below
theorem kn2_any {w : World} {D E : Nat -> Prop} {x sv : Value} {z : AW} {N g : Nat} (hx : EK w D x z) (hb : BQ w E g #[sv]) (hs : A6 w E (.agg #[sv]) N) : Calls Tryz.prog 107 #[x, .pointer (some ⟨g, 0, none⟩)] w (AM (fun r _ => r = .bool (Bn N z.target)) w) := by
 obtain ⟨a, b, rfl, ha, hb1⟩ := hx
 obtain ⟨C, l, e, rfl⟩ := hs.shape
 obtain ⟨A, m, c, rfl⟩ := ha.shape
 obtain ⟨B, k, d, rfl⟩ := hb1.shape
 clear ha hb1
 obtain ⟨K, kb, kc, hS⟩ : ∃ K : (Nat -> Prop) -> World -> Prop, (∀ D w, K D w -> BQ w D g #[.slice C l e]) /\ (∀ D w, K D w -> A6 w D (.agg #[.slice C l e]) N) /\ St w w [] K :=
  ⟨fun D w => BQ w D g #[.slice C l e] /\ A6 w D (.agg #[.slice C l e]) N, fun _ _ h => h.1, fun _ _ h => h.2, St.start (D := fun _ => True) (AU.and A5) ⟨AU E _ w w hb (Nat.le_refl _) (fun _ _ _ _ h => h) fun _ _ _ _ => trivial, hs.imp fun _ _ _ => trivial⟩⟩
 clear hb hs
 go_enter Tryz.func107, Tryz.ntmps107
 go_wp2_with (first
  | ((with_reducible refine qA 2 ?_); refine AA hS rfl _ _ rfl (.agg #[.bool z.revoke, .slice A m c, .slice B k d, .int .i64 z.target, .int .i64 z.origin]) _ rfl rfl ?_; clear hS; intro g2 w_ hS; (try simp only [Act.put, Act.eval, zz, Value.cells] at hS))
  | ((with_reducible refine qk 27 ?_); refine BigFrame.wpList_want rfl fun _ hK => B5 (cs := [.slice C l e]) rfl rfl (Hz ((kb _ _ hS.ro).cell 0 rfl)) Tryz.underlying27 rfl (by kernel_rfl) (hK _ _ ?_))
  | ((with_reducible refine qK ?_); refine qC hS ?_)
  | (go_at_call 47; refine (Cb _ N z.target _ _ (kc _ _ hS.ro)).mono ?_; rintro r_ w_ ⟨_, rfl, rfl, hb_⟩; replace hS := hS.ext hb_; clear hb_))
 go_ret
 exact AM.mk rfl hS.below
def Ia (N : Nat) (z : Nat × Nat) : Bool := (z.1 ||| z.2) &&& N == (z.1 ||| z.2)
theorem kn3_any {w : World} {D E : Nat -> Prop} {x sv : Value} {z : Nat × Nat} {N g : Nat} (hx : AO w D x z) (hb : BQ w E g #[sv]) (hs : A6 w E (.agg #[sv]) N) : Calls Tryz.prog 109 #[x, .pointer (some ⟨g, 0, none⟩)] w (AM (fun r _ => r = .bool (Ia N z)) w) := by
 obtain ⟨a, b, rfl, ha, hb1⟩ := hx
 obtain ⟨y, n⟩ := z
 dsimp only at ha hb1
 obtain ⟨A, m, c, rfl⟩ := ha.shape
 obtain ⟨B, k, d, rfl⟩ := hb1.shape
 obtain ⟨C, l, e, rfl⟩ := hs.shape
 obtain ⟨K, ka, kn, kb, kc, hS⟩ : ∃ K : (Nat -> Prop) -> World -> Prop, (∀ D w, K D w -> A6 w D (.agg #[.slice A m c]) y) /\ (∀ D w, K D w -> A6 w D (.agg #[.slice B k d]) n) /\ (∀ D w, K D w -> BQ w D g #[.slice C l e]) /\ (∀ D w, K D w -> A6 w D (.agg #[.slice C l e]) N) /\ St w w [] K :=
  ⟨fun D w => (A6 w D (.agg #[.slice A m c]) y /\ A6 w D (.agg #[.slice B k d]) n) /\ BQ w D g #[.slice C l e] /\ A6 w D (.agg #[.slice C l e]) N, fun _ _ h => h.1.1, fun _ _ h => h.1.2, fun _ _ h => h.2.1, fun _ _ h => h.2.2, St.start (D := fun _ => True) ((A5.and A5).and (AU.and A5)) ⟨⟨ha.imp fun _ _ _ => trivial, hb1.imp fun _ _ _ => trivial⟩, AU E _ w w hb (Nat.le_refl _) (fun _ _ _ _ h => h) fun _ _ _ _ => trivial, hs.imp fun _ _ _ => trivial⟩⟩
 clear ha hb1 hb hs
 have HR := Lib.hid (show Ia N (y, n) = ((y ||| n) &&& N == (y ||| n)) from rfl)
 generalize Ia N (y, n) = R at *
 go_enter Tryz.func109, Tryz.ntmps109
 go_wp2_with (first
  | ((with_reducible refine qA 2 ?_); refine AA hS rfl _ _ rfl (.agg #[.slice A m c, .slice B k d]) _ rfl rfl ?_; clear hS; intro g2 w_ hS; (try simp only [Act.put, Act.eval, zz, Value.cells] at hS)))
 refine Ci [.q g2 0, .i (.agg #[.slice A m c]), .q g2 1, .i (.agg #[.slice B k d]), .s (fun v w => A6 w (fun _ => True) v (y ||| n)) fun v w w' h hb => h.ext hb, .i (.agg #[.slice C l e]), .i (.bool R), .i (.bool R)] ⟨uF, ?_, uF, ?_, ?_, uD (h := fun w hW hN => Hz ((kb _ _ (hS.ext hW).ro).cell 0 rfl)), ?_, uA, trivial⟩ ?_
 ·refine uT fun b__ w hW hE K hK => ?_
  have e4 := hE 4
  exact J7 rfl e4 ((hS.ext hW).box 0 rfl) rfl Tryz.underlying27 (by kernel_rfl) (by kernel_rfl) (hK _ _ rfl (Below.refl _ _))
 ·refine uT fun b__ w hW hE K hK => ?_
  have e6 := hE 6
  exact J7 rfl e6 ((hS.ext hW).box 0 rfl) rfl Tryz.underlying27 (by kernel_rfl) (by kernel_rfl) (hK _ _ rfl (Below.refl _ _))
 ·refine uT fun b__ w hW hE K hK => ?_
  have e5 := hE 5
  have e7 := hE 7
  exact AC rfl (by kernel_rfl) (by simp only [List.map_cons, List.map_nil, e5, e7]) (Fb _ _ _ _ _ _ _ (ka _ _ (hS.ext hW).ro) (kn _ _ (hS.ext hW).ro)) fun v w' h hb => hK v w' (h.imp fun _ _ _ => trivial) hb
 ·refine uT fun b__ w hW hE K hK => ?_
  have e8 := hE 8
  have e9 := hE 9
  exact AC rfl (by kernel_rfl) (by simp only [List.map_cons, List.map_nil, e9]) (Ew _ _ _ _ _ _ _ e8 (kc _ _ (hS.ext hW).ro)) fun v w' h hb => hK v w' (h.trans (by rw [HR.out])) hb
 ·intro vs wz hW hT
  obtain ⟨e4, e5, e6, e7, e8, e9, e10, e3, -⟩ := hT
  have bx : (fun _ : Nat => True) 0 := trivial
  simp only [AE, Act.put, zz, ze]
  rw [e3]
  go_wp2_with fail
  go_ret
  exact AM.mk rfl (C1 hS.below hW)
end
section
open Go.RowKit
attribute [local go_sem ↓] Go.wp_at_zero Go.wp_at_succ
set_option maxRecDepth 20000
set_option exponentiation.threshold 5000
def D9 (r : Nat) : Nat := del (2 ^ (r + 1) - 1) 0
def DO (p : Af) (L : List (Nat × Nat)) (N : Nat) : Bool :=
 p.start &&& N == p.start && (L.all (fun z => Bn N z.1 && Bn N z.2) && (p.rules.all (fun z => Bn N z.target) && p.cubes.all (Ia N)))
set_option maxHeartbeats 2000000 in
theorem known_any {w0 : World} {D : Nat -> Prop} {v : Value} {p : Af} {L : List (Nat × Nat)} {r : Nat} (hp : B7 w0 D v p) (hP : p.Ok) (hl : p.links = some L) (hr : p.roles = (r : Int)) (h63 : r <= 63) :
  Calls Tryz.prog 67 #[v] w0 (AM (fun x _ => x = .bool (DO p L (D9 r))) w0) := by
 obtain ⟨N, hN⟩ : ∃ N, N = D9 r := ⟨_, rfl⟩
 rw [<- hN]
 have HN := Lib.hid hN
 clear hN
 obtain ⟨R, lk, st, rl, nl, gl⟩ := p
 dsimp only at hl hr
 subst hl hr
 have HL := Lib.hid (hP.links L rfl).2
 have HP := Lib.hid hP
 clear hP
 obtain ⟨lp, s, rv, nv, gv, rfl, h1, h2, h3, h4, h5⟩ := hp
 dsimp only at h1 h2 h3 h4 h5
 obtain ⟨q, o, rfl, -⟩ := id h1
 obtain ⟨Cs, ns, cs, rfl⟩ := h2.shape
 obtain ⟨Ar, cr, rfl, _, _⟩ := h3.shape
 obtain ⟨An, cn, rfl, _, _⟩ := h4.shape
 obtain ⟨Ag, cg, rfl, _, _⟩ := h5.shape
 obtain ⟨K, kp, kh, ks, kr, hS⟩ : ∃ K : (Nat -> Prop) -> World -> Prop, (∀ D w, K D w -> B7 w D (.agg #[.int .i64 (r : Nat), .pointer (some ⟨q, 0, none⟩), .slice Cs ns cs, .slice Ar rl.length cr, .slice An nl.length cn, .slice Ag gl.length cg]) ⟨(r : Int), some L, st, rl, nl, gl⟩) /\ (∀ D w, K D w -> IsH w D (.pointer (some ⟨q, 0, none⟩)) L) /\ (∀ D w, K D w -> A6 w D (.agg #[.slice Cs ns cs]) st) /\ (∀ D w, K D w -> Bi w D (.slice Ar rl.length cr) rl) /\ St w0 w0 [] K :=
  ⟨fun D w => ((Fp w D (.pointer (some ⟨q, 0, none⟩)) (some L) /\ A6 w D (.agg #[.slice Cs ns cs]) st) /\ Bi w D (.slice Ar rl.length cr) rl /\ AB w D (.slice An nl.length cn) nl /\ AB w D (.slice Ag gl.length cg) gl), fun _ _ h => ⟨_, _, _, _, _, rfl, h.1.1, h.1.2, h.2.1, h.2.2.1, h.2.2.2⟩, fun _ _ h => h.1.1, fun _ _ h => h.1.2, fun _ _ h => h.2.1,
   St.start (D := fun _ => True) ((BR.and A5).and (B9.and (AV.and AV))) ⟨⟨BR D _ w0 w0 h1 (Nat.le_refl _) (fun _ _ _ _ h => h) fun _ _ _ _ => trivial, h2.imp fun _ _ _ => trivial⟩, B9 D _ w0 w0 h3 (Nat.le_refl _) (fun _ _ _ _ h => h) fun _ _ _ _ => trivial, h4.imp fun _ _ _ => trivial, h5.imp fun _ _ _ => trivial⟩⟩
 clear h1 h2 h3 h4 h5
 obtain ⟨b1, hb1⟩ : ∃ b, b = (st &&& N == st) := ⟨_, rfl⟩
 obtain ⟨b2, hb2⟩ : ∃ b, b = L.all (fun z => Bn N z.1 && Bn N z.2) := ⟨_, rfl⟩
 obtain ⟨b3, hb3⟩ : ∃ b, b = rl.all (fun z => Bn N z.target) := ⟨_, rfl⟩
 obtain ⟨b4, hb4⟩ : ∃ b, b = (Af.cubes ⟨(r : Int), some L, st, rl, nl, gl⟩).all (Ia N) := ⟨_, rfl⟩
 have HR : Hid (DO ⟨(r : Int), some L, st, rl, nl, gl⟩ L N = (b1 && (b2 && (b3 && b4)))) := Lib.hid (by rw [hb1, hb2, hb3, hb4]; rfl)
 have HB1 := Lib.hid hb1
 have HB2 := Lib.hid hb2
 have HB3 := Lib.hid hb3
 have HB4 := Lib.hid hb4
 clear hb1 hb2 hb3 hb4
 obtain ⟨m, hm⟩ : ∃ m, m = r + 1 := ⟨_, rfl⟩
 have hm1 : ((r : Int) + 1) = (m : Int) := by omega
 have hm2 : m <= 4096 := by omega
 have HM : Hid (del (2 ^ m - 1) 0 = N) := Lib.hid (by rw [HN.out, hm]; rfl)
 clear hm
 go_enter Tryz.func67, Tryz.ntmps67
 go_wp2_with (first
  | ((with_reducible refine qA 1 ?_); refine AA hS rfl _ _ rfl (.agg #[.int .i64 (r : Nat), .pointer (some ⟨q, 0, none⟩), .slice Cs ns cs, .slice Ar rl.length cr, .slice An nl.length cn, .slice Ag gl.length cg]) _ rfl rfl ?_; clear hS; intro g1 w_ hS; (try simp only [Act.put, Act.eval, zz, Value.cells] at hS))
  | ((with_reducible refine qK ?_); refine qC hS ?_)
  | (go_at_call 34; refine (below_any m _ hm2).mono ?_; rintro r_ w_ ⟨v1, rfl, h1, hb_⟩; replace hS := hS.ret hb_ A5 h1; clear h1 hb_; obtain ⟨B1, c1, w1, rfl, -⟩ := hS.ro.2.parts)
  | (go_at_call 35; refine (EV _ _ 0 _ _ hS.ro.2).mono ?_; rw [HM.out]; rintro r_ w_ ⟨v2, rfl, h1, hb_⟩; replace hS := hS.ret2 hb_ A5 h1; clear h1 hb_; obtain ⟨B2, c2, w2, rfl, -⟩ := hS.ro.2.parts; obtain ⟨n2, hn2⟩ : ∃ n, n = w2.length := ⟨_, rfl⟩; rw [<- hn2] at hS ⊢; clear hn2)
  | ((with_reducible refine qA 3 ?_); refine qa hS #[.slice none 0 0] ?_; clear hS; intro g3 w_ hS)
  | (((with_reducible refine qM ?_); (first | refine qS hS ?_ | refine qT hS ?_); clear hS; intro w_ hS; (try simp only [Act.put, Act.eval, zz, Value.cells] at hS)); replace hS := hS.sealB 0 (by simp) rfl)
  | ((with_reducible refine qk 27 ?_); first | (refine A7 hS 0 rfl _ _ rfl _ _ rfl _ _ rfl _ (by first | rfl | assumption) Tryz.underlying27 rfl (by kernel_rfl) ?_) | (refine A7 hS 1 rfl _ _ rfl _ _ rfl _ _ rfl _ (by first | rfl | assumption) Tryz.underlying27 rfl (by kernel_rfl) ?_) | (refine A7 hS 2 rfl _ _ rfl _ _ rfl _ _ rfl _ (by first | rfl | assumption) Tryz.underlying27 rfl (by kernel_rfl) ?_) | (refine A7 hS 3 rfl _ _ rfl _ _ rfl _ _ rfl _ (by first | rfl | assumption) Tryz.underlying27 rfl (by kernel_rfl) ?_) | (refine A7 hS 4 rfl _ _ rfl _ _ rfl _ _ rfl _ (by first | rfl | assumption) Tryz.underlying27 rfl (by kernel_rfl) ?_) | (refine A7 hS 5 rfl _ _ rfl _ _ rfl _ _ rfl _ (by first | rfl | assumption) Tryz.underlying27 rfl (by kernel_rfl) ?_))
  | ((with_reducible refine qA 11 ?_); refine BigFrame.wpList_want rfl fun _ hK => B5 (cs := [.slice B2 n2 c2]) rfl rfl (Hz (hS.ro.2.cell 0 rfl)) Tryz.underlying27 rfl (by kernel_rfl) (hK _ _ ?_)))
 obtain ⟨K1, kk, k3, kN, hS2⟩ : ∃ K1 : (Nat -> Prop) -> World -> Prop, (∀ D w, K1 D w -> K D w) /\ (∀ D w, K1 D w -> BQ w D g3 #[.slice B2 n2 c2]) /\ (∀ D w, K1 D w -> A6 w D (.agg #[.slice B2 n2 c2]) N) /\ St w0 w_ [.box g1 31 #[.int .i64 (r : Nat), .pointer (some ⟨q, 0, none⟩), .slice Cs ns cs, .slice Ar rl.length cr, .slice An nl.length cn, .slice Ag gl.length cg]] K1 := ⟨_, fun _ _ h => h.1.1.1, fun _ _ h => h.2, fun _ _ h => h.1.2, hS⟩
 clear hS
 have hS := hS2
 clear hS2
 refine (Ew _ _ st N _ _ _ (ks _ _ (kk _ _ hS.ro)) (kN _ _ hS.ro)).mono ?_
 rw [<- HB1.out]
 rintro r_ w5 ⟨_, rfl, rfl, hb_⟩
 replace hS := hS.ext hb_
 clear hb_
 cases b1
 ·go_wp2_with fail
  go_ret
  exact AM.mk (by rw [HR.out]; rfl) hS.below
 go_wp2_with (first
  | ((with_reducible refine qK ?_); refine qC hS ?_)
  | (go_at_call 105; refine (hlinks_any (kh _ _ (kk _ _ hS.ro)) (by have := HL.out; omega)).mono ?_; rintro e w_ ⟨v4, rfl, hs⟩; replace hS := hS.new hs.below (.own v4 151 2 L.length (Ah L)) (hs.own 0 rfl); clear hs; replace hS := hS.freeze 0 (by decide) rfl))
 refine (allp_any v4 L 106 #[] #[.pointer (some ⟨g3, 0, none⟩)] (fun z => Bn N z.1 && Bn N z.2) (by kernel_rfl) hS (fun D w h => h.2) fun x z w _ ⟨F', h⟩ hx => kn1_any hx (k3 _ _ h.ro.1) (kN _ _ h.ro.1)).mono ?_
 rw [<- HB2.out]
 clear hS
 rintro r_ w6 ⟨rfl, hS⟩
 cases b2
 ·go_wp2_with fail
  go_ret
  exact AM.mk (by rw [HR.out]; rfl) hS.below
 go_wp2_with (first | ((with_reducible refine qK ?_); refine qC hS ?_))
 refine (allr_any _ rl 107 #[] #[.pointer (some ⟨g3, 0, none⟩)] (fun z => Bn N z.target) (by kernel_rfl) hS (fun D w h => kr D w (kk D w h.1)) fun x z w _ ⟨F', h⟩ => kn2_any h.ro.2 (k3 _ _ h.ro.1.1) (kN _ _ h.ro.1.1)).mono ?_
 rw [<- HB3.out]
 clear hS
 rintro r_ w7 ⟨rfl, hS⟩
 cases b3
 ·go_wp2_with fail
  go_ret
  exact AM.mk (by rw [HR.out]; rfl) hS.below
 go_wp2_with (first
  | ((with_reducible refine qA 27 ?_); refine BigFrame.wpList_want rfl fun _ hK => AQ rfl rfl (hS.box 0 rfl) Tryz.underlying31 rfl (by kernel_rfl) (hK _ _ ?_))
  | (go_at_call 68; refine (J4 HP.out hS (fun D w h => kp D w (kk D w h.1))).mono ?_; clear hS; rintro e w_ ⟨v8, rfl, hS⟩))
 refine (allc_any v8 _ 109 #[] #[.pointer (some ⟨g3, 0, none⟩)] (Ia N) (by kernel_rfl) hS (fun D w h => h.2) fun x z w _ ⟨F', h⟩ => kn3_any h.ro.2 (k3 _ _ h.ro.1.1.1) (kN _ _ h.ro.1.1.1)).mono ?_
 rw [<- HB4.out]
 clear hS
 rintro r_ w9 ⟨rfl, hS⟩
 go_wp2_with fail
 go_ret
 exact AM.mk (by rw [HR.out]; rfl) hS.below
end
section
open Go.RowKit
attribute [local go_sem ↓] Go.wp_at_zero Go.wp_at_succ
set_option maxRecDepth 20000
set_option exponentiation.threshold 5000
noncomputable def checkE (p : Af) : Int := match p.links with
 | none => 1
 | some L => if p.roles < 1 \/ 63 < p.roles then 1 else if 64 < p.rules.length \/ 2000 < p.never.length \/ 2000 < p.goal.length then 3
  else if DO p L (D9 p.roles.toNat) = false then 4 else if (p.cubes.any fun z => z.1 &&& z.2 != 0) = true \/ p.rules.all revB = false then 6
  else if goodB p p.start = false then 7 else 0
theorem B7.shape6 {w : World} {D : Nat -> Prop} {v : Value} {p : Af} (h : B7 w D v p) : ∃ la As ns cs Ar cr An cn Ag cg, v = .agg #[.int .i64 p.roles, .pointer la, .slice As ns cs, .slice Ar p.rules.length cr, .slice An p.never.length cn, .slice Ag p.goal.length cg] := by
 obtain ⟨lp, s, rv, nv, gv, rfl, h1, h2, h3, h4, h5⟩ := h
 obtain ⟨la, rfl⟩ : ∃ la, lp = .pointer la := by
  cases hl : p.links with
  | none => rw [hl] at h1; exact ⟨none, h1⟩
  | some L => rw [hl] at h1; obtain ⟨q, o, rfl, -⟩ := h1; exact ⟨_, rfl⟩
 obtain ⟨Cs, ns, cs, rfl⟩ := h2.shape
 obtain ⟨Ar, cr, rfl, _, _⟩ := h3.shape
 obtain ⟨An, cn, rfl, _, _⟩ := h4.shape
 obtain ⟨Ag, cg, rfl, _, _⟩ := h5.shape
 exact ⟨_, _, _, _, _, _, _, _, _, _, rfl⟩
theorem cempty_any {w : World} {D : Nat -> Prop} {x : Value} {z : Nat × Nat} (hx : AO w D x z) : Calls Tryz.prog 69 #[x] w (AM (fun u _ => u = .bool (z.1 &&& z.2 != 0)) w) := by
 obtain ⟨a, b, rfl, ha, hb⟩ := hx
 exact Jp a b _ _ w D D ha hb
set_option maxHeartbeats 2000000 in
theorem Cq {w0 : World} {D : Nat -> Prop} {v : Value} {p : Af} (hp : B7 w0 D v p) (hP : p.Ok) (hT : Bx w0) : Calls Tryz.prog 31 #[v] w0 (AM (fun x _ => x = .int .i64 (checkE p)) w0) := by
 obtain ⟨R, lk, st, rl, nl, gl⟩ := p
 have HP := Lib.hid hP
 obtain ⟨hP1, hP2, hP3, -⟩ := hP
 dsimp only at hP1 hP2 hP3
 obtain ⟨lp, s, rv, nv, gv, rfl, h1, h2, h3, h4, h5⟩ := hp
 dsimp only at h1 h2 h3 h4 h5 ⊢
 obtain ⟨Cs, ns, cs, rfl⟩ := h2.shape
 obtain ⟨Ar, cr, rfl, _, _⟩ := h3.shape
 obtain ⟨An, cn, rfl, _, _⟩ := h4.shape
 obtain ⟨Ag, cg, rfl, _, _⟩ := h5.shape
 obtain ⟨K, kp, kh, ks, kr, kt, hS⟩ : ∃ K : (Nat -> Prop) -> World -> Prop, (∀ D w, K D w -> B7 w D (.agg #[.int .i64 R, lp, .slice Cs ns cs, .slice Ar rl.length cr, .slice An nl.length cn, .slice Ag gl.length cg]) ⟨R, lk, st, rl, nl, gl⟩) /\ (∀ D w, K D w -> Fp w D lp lk) /\ (∀ D w, K D w -> A6 w D (.agg #[.slice Cs ns cs]) st) /\ (∀ D w, K D w -> Bi w D (.slice Ar rl.length cr) rl) /\ (∀ D w, K D w -> Bx w) /\ St w0 w0 [] K :=
  ⟨fun D w => ((Fp w D lp lk /\ A6 w D (.agg #[.slice Cs ns cs]) st) /\ Bi w D (.slice Ar rl.length cr) rl /\ AB w D (.slice An nl.length cn) nl /\ AB w D (.slice Ag gl.length cg) gl) /\ (Bx w /\ D 0), fun _ _ h => ⟨_, _, _, _, _, rfl, h.1.1.1, h.1.1.2, h.1.2.1, h.1.2.2.1, h.1.2.2.2⟩, fun _ _ h => h.1.1.1, fun _ _ h => h.1.1.2, fun _ _ h => h.1.2.1, fun _ _ h => h.2.1,
   St.start (D := fun _ => True) (((BR.and A5).and (B9.and (AV.and AV))).and C5) ⟨⟨⟨BR D _ w0 w0 h1 (Nat.le_refl _) (fun _ _ _ _ h => h) fun _ _ _ _ => trivial, h2.imp fun _ _ _ => trivial⟩, B9 D _ w0 w0 h3 (Nat.le_refl _) (fun _ _ _ _ h => h) fun _ _ _ _ => trivial, h4.imp fun _ _ _ => trivial, h5.imp fun _ _ _ => trivial⟩, hT, trivial⟩⟩
 clear h1 h2 h3 h4 h5 hT
 cases lk with
 | none =>
  obtain rfl := kh _ _ hS.ro
  go_enter Tryz.func31, Tryz.ntmps31
  go_wp2_with (first
   | ((with_reducible refine qA 1 ?_); refine AA hS rfl _ _ rfl (.agg #[.int .i64 R, .pointer none, .slice Cs ns cs, .slice Ar rl.length cr, .slice An nl.length cn, .slice Ag gl.length cg]) _ rfl rfl ?_; clear hS; intro g1 w_ hS; (try simp only [Act.put, Act.eval, zz, Value.cells] at hS))
   | ((with_reducible refine qK ?_); refine qC hS ?_))
  go_ret
  exact AM.mk rfl hS.below
 | some L =>
  obtain ⟨q, o, rfl, -⟩ := id (kh _ _ hS.ro)
  have HE := Lib.hid (show checkE ⟨R, some L, st, rl, nl, gl⟩ = if R < 1 \/ 63 < R then 1 else if 64 < rl.length \/ 2000 < nl.length \/ 2000 < gl.length then 3
   else if DO ⟨R, some L, st, rl, nl, gl⟩ L (D9 R.toNat) = false then 4 else if ((Af.cubes ⟨R, some L, st, rl, nl, gl⟩).any fun z => z.1 &&& z.2 != 0) = true \/ rl.all revB = false then 6
   else if goodB ⟨R, some L, st, rl, nl, gl⟩ st = false then 7 else 0 from rfl)
  generalize checkE ⟨R, some L, st, rl, nl, gl⟩ = RES at *
  by_cases hR : R < 1 \/ 63 < R
  ·have hE : RES = 1 := by rw [HE.out, if_pos hR]
   subst hE
   by_cases hR1 : R < 1
   all_goals
    go_enter Tryz.func31, Tryz.ntmps31
    go_wp2_with (first
     | ((with_reducible refine qA 1 ?_); refine AA hS rfl _ _ rfl (.agg #[.int .i64 R, .pointer (some ⟨q, 0, none⟩), .slice Cs ns cs, .slice Ar rl.length cr, .slice An nl.length cn, .slice Ag gl.length cg]) _ rfl rfl ?_; clear hS; intro g1 w_ hS; (try simp only [Act.put, Act.eval, zz, Value.cells] at hS))
     | ((with_reducible refine qK ?_); refine qC hS ?_)
     | ((with_reducible refine qB ?_); refine qc ?_ ?_ <;> intro h_ <;> go_prune)
     )
    go_ret
    exact AM.mk rfl hS.below
  obtain ⟨r, rfl⟩ : ∃ r : Nat, R = (r : Int) := ⟨R.toNat, by omega⟩
  have hr63 : 1 <= r /\ r <= 63 := by omega
  replace HE := Lib.hid (HE.out.trans (if_neg hR))
  clear hR
  by_cases hN : 64 < rl.length \/ 2000 < nl.length \/ 2000 < gl.length
  ·have hE : RES = 3 := by rw [HE.out, if_pos hN]
   subst hE
   by_cases hN1 : 64 < rl.length
   all_goals
    by_cases hN2 : 2000 < nl.length
    all_goals
     go_enter Tryz.func31, Tryz.ntmps31
     go_wp2_with (first
      | ((with_reducible refine qA 1 ?_); refine AA hS rfl _ _ rfl (.agg #[.int .i64 (r : Nat), .pointer (some ⟨q, 0, none⟩), .slice Cs ns cs, .slice Ar rl.length cr, .slice An nl.length cn, .slice Ag gl.length cg]) _ rfl rfl ?_; clear hS; intro g1 w_ hS; (try simp only [Act.put, Act.eval, zz, Value.cells] at hS))
      | ((with_reducible refine qK ?_); refine qC hS ?_)
      | ((with_reducible refine qB ?_); refine qc ?_ ?_ <;> intro h_ <;> go_prune)
      )
     go_ret
     exact AM.mk rfl hS.below
  have hN1 : rl.length <= 64 /\ nl.length <= 2000 /\ gl.length <= 2000 := by omega
  obtain ⟨hN1, hN2, hN3⟩ := hN1
  replace HE := Lib.hid (HE.out.trans (if_neg hN))
  clear hN
  go_enter Tryz.func31, Tryz.ntmps31
  go_wp2_with (first
   | ((with_reducible refine qA 1 ?_); refine AA hS rfl _ _ rfl (.agg #[.int .i64 (r : Nat), .pointer (some ⟨q, 0, none⟩), .slice Cs ns cs, .slice Ar rl.length cr, .slice An nl.length cn, .slice Ag gl.length cg]) _ rfl rfl ?_; clear hS; intro g1 w_ hS; (try simp only [Act.put, Act.eval, zz, Value.cells] at hS))
   | ((with_reducible refine qK ?_); refine qC hS ?_)
   | ((with_reducible refine qB ?_); refine qc ?_ ?_ <;> intro h_ <;> go_prune)
   | ((with_reducible refine qK ?_); refine qL hS Tryz.underlying31 ?_))
  refine (known_any (kp _ _ hS.ro) HP.out rfl rfl hr63.2).mono ?_
  rintro e_ w1 ⟨_, rfl, rfl, hb_⟩
  replace hS := hS.ext hb_
  clear hb_
  have e1 : D9 ((r : Int)).toNat = D9 r := by rw [Int.toNat_natCast]
  rw [e1] at HE
  obtain ⟨b1, hb1⟩ : ∃ b, b = DO ⟨(r : Int), some L, st, rl, nl, gl⟩ L (D9 r) := ⟨_, rfl⟩
  rw [<- hb1] at HE ⊢
  clear hb1 e1
  cases b1
  ·have hE : RES = 4 := HE.out.trans (if_pos rfl)
   subst hE
   go_wp2_with fail
   go_ret
   exact AM.mk rfl hS.below
  replace HE := Lib.hid (HE.out.trans (if_neg (by decide)))
  go_wp2_with (first
   | ((with_reducible refine qK ?_); refine qL hS Tryz.underlying31 ?_)
   | (go_at_call 68; refine (J4 HP.out hS kp).mono ?_; clear hS; rintro e w_ ⟨v8, rfl, hS⟩))
  refine (H7 v8 _ 69 #[] #[] (fun z => z.1 &&& z.2 != 0) (by kernel_rfl) hS (fun D w h => h.2) fun x z w _ ⟨F', h⟩ => cempty_any h.ro.2).mono ?_
  clear hS
  rintro r_ w2 ⟨rfl, hS⟩
  obtain ⟨b2, hb2⟩ : ∃ b, b = (Af.cubes ⟨(r : Int), some L, st, rl, nl, gl⟩).any fun z => z.1 &&& z.2 != 0 := ⟨_, rfl⟩
  rw [<- hb2] at HE ⊢
  clear hb2
  cases b2
  rotate_left
  ·have hE : RES = 6 := HE.out.trans (if_pos (.inl rfl))
   subst hE
   go_wp2_with fail
   go_ret
   exact AM.mk rfl hS.below
  go_wp2_with (first | ((with_reducible refine qK ?_); refine qC hS ?_))
  refine (allr_any _ rl 66 #[] #[] revB (by kernel_rfl) hS (fun D w h => kr D w h.1) fun x z w _ ⟨F', h⟩ => chk1_any h.ro.2).mono ?_
  clear hS
  rintro r_ w3 ⟨rfl, hS⟩
  obtain ⟨b3, hb3⟩ : ∃ b, b = rl.all revB := ⟨_, rfl⟩
  rw [<- hb3] at HE ⊢
  clear hb3
  cases b3
  ·have hE : RES = 6 := HE.out.trans (if_pos (.inr rfl))
   subst hE
   go_wp2_with fail
   go_ret
   exact AM.mk rfl hS.below
  replace HE := Lib.hid (HE.out.trans (if_neg (by decide)))
  go_wp2_with (first
   | ((with_reducible refine qK ?_); refine qL hS Tryz.underlying31 ?_)
   | ((with_reducible refine qk 27 ?_); first | (refine A7 hS 0 rfl _ _ rfl _ _ rfl _ _ rfl _ (by first | rfl | assumption) Tryz.underlying27 rfl (by kernel_rfl) ?_) | (refine A7 hS 1 rfl _ _ rfl _ _ rfl _ _ rfl _ (by first | rfl | assumption) Tryz.underlying27 rfl (by kernel_rfl) ?_) | (refine A7 hS 2 rfl _ _ rfl _ _ rfl _ _ rfl _ (by first | rfl | assumption) Tryz.underlying27 rfl (by kernel_rfl) ?_) | (refine A7 hS 3 rfl _ _ rfl _ _ rfl _ _ rfl _ (by first | rfl | assumption) Tryz.underlying27 rfl (by kernel_rfl) ?_) | (refine A7 hS 4 rfl _ _ rfl _ _ rfl _ _ rfl _ (by first | rfl | assumption) Tryz.underlying27 rfl (by kernel_rfl) ?_) | (refine A7 hS 5 rfl _ _ rfl _ _ rfl _ _ rfl _ (by first | rfl | assumption) Tryz.underlying27 rfl (by kernel_rfl) ?_)))
  refine (Jh (kp _ _ hS.ro.1) HP.out (kt _ _ hS.ro.1) (ks _ _ hS.ro.1)).mono ?_
  rintro e_ w4 ⟨_, rfl, rfl, hb_⟩
  replace hS := hS.ext hb_
  clear hb_
  obtain ⟨b4, hb4⟩ : ∃ b, b = goodB ⟨(r : Int), some L, st, rl, nl, gl⟩ st := ⟨_, rfl⟩
  rw [<- hb4] at HE ⊢
  clear hb4
  cases b4
  ·have hE : RES = 7 := HE.out.trans (if_pos rfl)
   subst hE
   go_wp2_with fail
   go_ret
   exact AM.mk rfl hS.below
  have hE : RES = 0 := HE.out.trans (if_neg (by decide))
  subst hE
  go_wp2_with fail
  go_ret
  exact AM.mk rfl hS.below
end
section
open Go.RowKit
attribute [local go_sem ↓] Go.wp_at_zero Go.wp_at_succ
set_option maxRecDepth 20000
set_option exponentiation.threshold 5000
noncomputable def senQ (L : List (Nat × Nat)) (r : Int) : Nat := if 1 <= r /\ r <= 63 then senM L r.toNat else 0
noncomputable def depP (L : List (Nat × Nat)) (pre : List Int) : Nat := pre.foldl (fun m x => m ||| senQ L x) 0
theorem depP_snoc (L : List (Nat × Nat)) (pre : List Int) (x : Int) : depP L (pre ++ [x]) = depP L pre ||| senQ L x := by
 unfold depP; rw [List.foldl_append]; rfl
noncomputable def depM (L : List (Nat × Nat)) (N : Nat) : Nat := maskOf 64 fun i => ∃ r, 1 <= r /\ r < 64 /\ N.testBit r = true /\ (senM L r).testBit i = true
theorem tb_dep {L : List (Nat × Nat)} (hL : ES 64 L) {N i : Nat} : (depM L N).testBit i = true ↔ ∃ r, 1 <= r /\ r < 64 /\ N.testBit r = true /\ (senM L r).testBit i = true := by
 rw [depM, BG]
 refine ⟨fun h => h.2, fun h => ⟨?_, h⟩⟩
 obtain ⟨r, h1, h2, h3, h4⟩ := h
 rcases (tb_sen hL).1 h4 with rfl | h
 ·exact h2
 ·exact (h.lt hL).1
theorem depP_full {L : List (Nat × Nat)} (hL : ES 64 L) {ws : List Nat} (hw : Ba ws) : depP L (BU ws) = depM L (Bp ws) := Bf fun i => by
 unfold depP
 rw [Hq, tb_dep hL, Nat.zero_testBit]
 constructor
 ·rintro (h | ⟨x, h1, h2⟩)
  ·cases h
  ·obtain ⟨k, rfl⟩ := GU h1
   have h3 := (DN hw).1 h1
   unfold senQ at h2
   split at h2
   ·rename_i h4
    exact ⟨k, by omega, by omega, h3, by simpa using h2⟩
   ·rw [Nat.zero_testBit] at h2; cases h2
 ·rintro ⟨r, h1, h2, h3, h4⟩
  refine .inr ⟨(r : Int), (DN hw).2 h3, ?_⟩
  rw [senQ, if_pos (by omega), Int.toNat_natCast]
  exact h4
set_option maxHeartbeats 2000000 in
theorem E1 {w0 : World} {D E : Nat -> Prop} {v u : Value} {p : Af} {L : List (Nat × Nat)} {z : Nat × Nat} (hp : B7 w0 D v p) (hl : p.links = some L) (hH : Hf L) (hT : Bx w0) (hu : AO w0 E u z) : Calls Tryz.prog 79 #[v, u] w0 (AM (fun x w' => A6 w' (w0.heap.size <= ·) x (depM L (z.1 ||| z.2))) w0) := by
 obtain ⟨R, lk, st, rl, nl, gl⟩ := p
 dsimp only at hl
 subst hl
 obtain ⟨lp, s, rv, nv, gv, rfl, h1, h2, h3, h4, h5⟩ := hp
 dsimp only at h1 h2 h3 h4 h5 ⊢
 obtain ⟨q, o, rfl, hX⟩ := id h1
 obtain ⟨Cs, ns, cs, rfl⟩ := h2.shape
 obtain ⟨Ar, cr, rfl, _, _⟩ := h3.shape
 obtain ⟨An, cn, rfl, _, _⟩ := h4.shape
 obtain ⟨Ag, cg, rfl, _, _⟩ := h5.shape
 obtain ⟨y, n⟩ := z
 obtain ⟨ya, na, rfl, hy, hn⟩ := hu
 dsimp only at hy hn ⊢
 obtain ⟨Ay, my, cy, rfl⟩ := hy.shape
 obtain ⟨Am, mn, cm, rfl⟩ := hn.shape
 obtain ⟨N, hN⟩ : ∃ N, N = y ||| n := ⟨_, rfl⟩
 rw [<- hN]
 have HN := Lib.hid hN
 clear hN h1 h2 h3 h4 h5
 obtain ⟨K, ky, kn, ko, kt, hS⟩ : ∃ K : (Nat -> Prop) -> World -> Prop, (∀ D w, K D w -> A6 w D (.agg #[.slice Ay my cy]) y) /\ (∀ D w, K D w -> A6 w D (.agg #[.slice Am mn cm]) n) /\ (∀ D w, K D w -> FZ q o L D w) /\ (∀ D w, K D w -> Bx w /\ D 0) /\ St w0 w0 [] K :=
  ⟨fun D w => ((A6 w D (.agg #[.slice Ay my cy]) y /\ A6 w D (.agg #[.slice Am mn cm]) n) /\ FZ q o L D w) /\ Bx w /\ D 0, fun _ _ h => h.1.1.1, fun _ _ h => h.1.1.2, fun _ _ h => h.1.2, fun _ _ h => h.2, St.start (D := fun _ => True) (((A5.and A5).and CG).and C5) ⟨⟨⟨hy.imp fun _ _ _ => trivial, hn.imp fun _ _ _ => trivial⟩, CG D _ w0 w0 hX (Nat.le_refl _) (fun _ _ _ _ h => h) fun _ _ _ _ => trivial⟩, hT, trivial⟩⟩
 have HH := Lib.hid hH
 clear hy hn hT hX hH
 refine (callsIn_wide (n := 6)).1 (callsIn_of_wp_marks Tryz.func79 rfl trivial ?_ rfl)
 simp only [Tryz.ntmps79, List.size_toArray, List.length_cons, List.length_nil, Nat.reduceAdd, Nat.reduceSub, Array.replicate_succ, Array.replicate_zero, List.push_toArray, List.append_toArray, List.nil_append, List.cons_append]
 refine wpIn_wide.2 ?_
 go_wp2_with (first
  | ((with_reducible refine qA 2 ?_); refine AA hS rfl _ _ rfl (.agg #[.int .i64 R, .pointer (some ⟨q, 0, none⟩), .slice Cs ns cs, .slice Ar rl.length cr, .slice An nl.length cn, .slice Ag gl.length cg]) _ rfl rfl ?_; clear hS; intro g2 w_ hS; (try simp only [Act.put, Act.eval, zz, Value.cells] at hS))
  | ((with_reducible refine qA 3 ?_); refine AA hS rfl _ _ rfl (.agg #[.slice Ay my cy, .slice Am mn cm]) _ rfl rfl ?_; clear hS; intro g3 w_ hS; (try simp only [Act.put, Act.eval, zz, Value.cells] at hS))
  | ((with_reducible refine qA 4 ?_); refine qa hS #[.slice none 0 0] ?_; clear hS; intro g4 w_ hS)
  | ((with_reducible refine qA 5 ?_); refine qa hS #[.slice none 0 0] ?_; clear hS; intro g5 w_ hS)
  | ((with_reducible refine qk 27 ?_); first | (refine A7 hS 0 rfl _ _ rfl _ _ rfl _ _ rfl _ (by first | rfl | assumption) Tryz.underlying27 rfl (by kernel_rfl) ?_) | (refine A7 hS 1 rfl _ _ rfl _ _ rfl _ _ rfl _ (by first | rfl | assumption) Tryz.underlying27 rfl (by kernel_rfl) ?_) | (refine A7 hS 2 rfl _ _ rfl _ _ rfl _ _ rfl _ (by first | rfl | assumption) Tryz.underlying27 rfl (by kernel_rfl) ?_) | (refine A7 hS 3 rfl _ _ rfl _ _ rfl _ _ rfl _ (by first | rfl | assumption) Tryz.underlying27 rfl (by kernel_rfl) ?_) | (refine A7 hS 4 rfl _ _ rfl _ _ rfl _ _ rfl _ (by first | rfl | assumption) Tryz.underlying27 rfl (by kernel_rfl) ?_) | (refine A7 hS 5 rfl _ _ rfl _ _ rfl _ _ rfl _ (by first | rfl | assumption) Tryz.underlying27 rfl (by kernel_rfl) ?_))
  | (go_at_call 32; refine (Fb _ _ y n _ _ _ (ky _ _ hS.ro) (kn _ _ hS.ro)).mono ?_; rw [<- HN.out]; rintro r_ w_ ⟨_, rfl, h1, hb_⟩; replace hS := hS.ret hb_ A5 h1; clear h1 hb_; obtain ⟨A, c, l, rfl, hl, hvl, _⟩ := hS.ro.2.parts))
 obtain ⟨KY, ky1, ko1, kt1, hS2⟩ : ∃ KY : (Nat -> Prop) -> World -> Prop, (∀ D w, KY D w -> A6 w D (.agg #[.slice A l.length c]) (Bp l)) /\ (∀ D w, KY D w -> FZ q o L D w) /\ (∀ D w, KY D w -> Bx w /\ D 0) /\ St w0 w_ [.box g5 27 #[.slice none 0 0], .box g4 27 #[.slice none 0 0], .box g3 54 #[.slice Ay my cy, .slice Am mn cm], .box g2 31 #[.int .i64 R, .pointer (some ⟨q, 0, none⟩), .slice Cs ns cs, .slice Ar rl.length cr, .slice An nl.length cn, .slice Ag gl.length cg]] KY := ⟨_, fun _ _ h => by rw [<- hvl]; exact h.2, fun _ _ h => ko _ _ h.1, fun _ _ h => kt _ _ h.1, hS⟩
 have HVL := Lib.hid hvl
 clear hS ky kn kt ko K
 have ko := ko1
 have kt := kt1
 clear ko1 kt1
 have hS := hS2
 clear hS2 hvl
 refine (Gw _ _ _ _ (ky1 _ _ hS.ro)).mono ?_
 rintro e w3 ⟨_, rfl, ⟨Bs, A', cap, ws, rfl, e1, hcn, hvN, hsl, hBs, hX⟩, hb3⟩
 obtain rfl := H5 hcn hl hvN
 obtain ⟨rfl, rfl⟩ : A = A' /\ c = cap := by simpa using e1
 clear e1 hvN
 obtain ⟨hT, hT0⟩ := kt _ _ hS.ro
 replace hS := hS.good hb3 hsl hT hT0 hBs hX
 obtain ⟨KK, ko, kG, KKS, hS⟩ : ∃ KK : (Nat -> Prop) -> World -> Prop, (∀ D w, KK D w -> FZ q o L D w) /\ (∀ D w, KK D w -> He Bs A c ws w) /\ AK KK /\ St w0 w3 [.box g5 27 #[.slice none 0 0], .box g4 27 #[.slice none 0 0], .box g3 54 #[.slice Ay my cy, .slice Am mn cm], .box g2 31 #[.int .i64 R, .pointer (some ⟨q, 0, none⟩), .slice Cs ns cs, .slice Ar rl.length cr, .slice An nl.length cn, .slice Ag gl.length cg]] KK := ⟨_, fun D w h => ko D w h.1, fun D w h => h.2.1, hS.stable, hS⟩
 have HCN := Lib.hid hcn
 have HCF : Hid (depP L (BU ws) = depM L N) := Lib.hid (by rw [HVL.out]; exact depP_full HH.out.inr hcn.1)
 clear hsl hX hT hT0 hb3 kt ky1 hcn hl
 go_wp2_with fail
 have hsz := hS.size
 refine (wpIn_wide (n := 6)).1 ?_
 refine Gg fun act hact => ?_
 refine EB hS HCN.out.1 HCN.out.2.2 kG (by rw [hact]; rfl) rfl
  (fun pre F' K' => ∃ u, F' = [.box g5 27 #[u], .box g4 27 #[.slice none 0 0], .box g3 54 #[.slice Ay my cy, .slice Am mn cm], .box g2 31 #[.int .i64 R, .pointer (some ⟨q, 0, none⟩), .slice Cs ns cs, .slice Ar rl.length cr, .slice An nl.length cn, .slice Ag gl.length cg]] /\ AK K' /\ ∀ D w, K' D w -> KK D w /\ A6 w (fun z => D z /\ w0.heap.size <= z) (.agg #[u]) (depP L pre))
  (fun _ _ _ _ => False) (fun s F K' h D w hk => by obtain ⟨_, _, _, h4⟩ := h; exact (h4 D w hk).1) ?hr (fun _ _ _ _ h => h.elim) ⟨_, rfl, KKS, fun D w h => ⟨h, A6.empty⟩⟩
  (fun x => { tmps := (act.tmps.setIfInBounds 13 (.int .i64 x)).setIfInBounds 6 (.int .i64 x), defers := [] }) ?assign ?body ?done (fun _ _ _ _ _ _ _ _ h _ _ => h.elim)
 case hr =>
  rintro s F K' ⟨u, rfl, _⟩ f hf
  simp only [List.mem_cons, List.not_mem_nil, or_false] at hf
  rcases hf with rfl | rfl | rfl | rfl <;> exact .inl rfl
 case assign =>
  intro l x W K hK
  subst hact
  rw [It]
  refine wpIn_region_lit ?_
  refine FC (by intro _ _ h; exact h) _ _ _ (by rfl) _ _ ?_
  refine wpList_plain rfl fun _ hK' => CC (v := .int .i64 x) rfl (by rfl) (hK' _ _ ?_)
  exact wpList_nil hK
 case body =>
  rintro l pre x hx W F' Xo K' ⟨ub, rfl, hKs, hk'⟩ hS hlt
  subst hact
  have HW := Lib.hid (depP_snoc L pre x)
  generalize depP L pre = N0 at *
  have HKP := Lib.hid hk'
  have hWs : W.heap.size <= W.heap.size := Nat.le_refl _
  clear hx hk'
  simp only [Act.put, List.setIfInBounds_toArray, List.set_cons_zero, List.set_cons_succ]
  refine wpIn_block ?_
  refine D5 (by kernel_rfl) (by intro _ _ h; exact h) (by rfl) ?_
  refine Jt 6 [] [.i (.agg #[ub]), .q g2 1, .q q 0, .n x, .s (fun v w => A6 w (fun _ => True) v (senQ L x)) fun v w w' h hb => h.ext hb, .s (fun v w => ∃ u, v = .agg #[u] /\ u.oneCell' = true /\ A6 w (fun z => W.heap.size <= z) (.agg #[u]) (N0 ||| senQ L x)) fun v w w' h hb => ⟨_, h.choose_spec.1, h.choose_spec.2.1, h.choose_spec.2.2.ext hb⟩, .t] ⟨uR (h := fun w hW hN => (hS.ext hW).box 0 rfl), uF, uC (h := fun w hW hN => ((hS.ext hW).box 3 rfl).cell 1), uM, ?_, ?_, trivial⟩ ?_
  ·refine uT fun b__ w hW hE K hK => ?_
   have e16 := hE 16
   have e17 := hE 17
   refine AC rfl (by kernel_rfl) (by simp only [List.map_cons, List.map_nil, e16, e17]) (hsen_any (w0 := w) ⟨q, o, rfl, ko _ _ (HKP.out _ _ (hS.ext hW).ro.1).1⟩ HH.out x) fun v w' h hb => ?_
   exact hK v w' (h.imp fun _ _ _ => trivial) hb
  ·refine uT fun b__ w hW hE K hK => ?_
   have e14 := hE 14
   have e18 := hE 18
   refine AC rfl (by kernel_rfl) (by simp only [List.map_cons, List.map_nil, e14]) (Fb (.agg #[ub]) _ N0 _ w _ _ (HKP.out _ _ (hS.ext hW).ro.1).2 e18) fun v w' h hb => ?_
   obtain ⟨u, rfl, h1⟩ := BC h
   exact hK _ w' ⟨u, rfl, h1, h.imp fun z hz _ => Nat.le_trans hW.size hz⟩ hb
  ·intro vs wz hW hT
   obtain ⟨e14, e15, e16, e17, e18, e19, -⟩ := hT
   have bx : (fun _ : Nat => True) 0 := trivial
   simp only [AE, Act.put, zz, ze]
   (intro o_ ho_; simp only [List.getElem?_toArray, List.getElem?_cons_succ, List.getElem?_cons_zero, Option.some.injEq] at ho_; subst ho_)
   obtain ⟨un, e19, hu1, hun⟩ := e19
   have hsW := hS.size
   have hS1 := hS.ret hW (AP (A5 (v := .agg #[un]) (N := N0 ||| senQ L x)) fun z => w0.heap.size <= z) (hun.imp fun z hz _ => ⟨hz, Nat.le_trans hsW hz⟩)
   refine BT rfl rfl e19 (hS1.box 0 rfl) (by kernel_rfl) rfl (by simpa using hu1) fun w4 h1 hU => ?_
   have hS2 := (hS1.upd 0 rfl (.box g5 27 #[un]) (Bg hU) ⟨(hS1.holds (.box g5 27 #[ub]) (by simp)).1, h1⟩ fun _ e => .inl e)
   refine ⟨_, _, ⟨un, rfl, hS2.stable, fun D w h => ⟨(HKP.out D w h.1.1).1, by rw [HW.out]; exact h.2⟩⟩, by rw [hU.size]; exact hW.size, hS2⟩
 case done =>
  rintro D W F' K' hD ⟨u, rfl, hKs, hk'⟩ hS hK
  subst hact
  obtain ⟨A3, c3, l3, he, -⟩ := ((hk' _ _ hS.ro).2).parts
  obtain rfl : u = .slice A3 l3.length c3 := by injection he with he; simpa using he
  clear he
  have hM := hS.mark hsz hD (by
   intro f hf
   simp only [List.mem_cons, List.not_mem_nil, or_false] at hf
   rcases hf with rfl | rfl | rfl | rfl <;> exact .inl rfl) hK rfl
  have HKP := Lib.hid hk'
  clear hk' hS hK
  have hS := hM
  clear hM
  simp only [List.cons_append, List.nil_append] at hS
  go_wp2_with (first
   | ((with_reducible refine qK ?_); refine qL hS Tryz.underlying27 ?_)
   | ((with_reducible refine qM ?_); (first | refine qS hS ?_ | refine qT hS ?_); clear hS; intro w_ hS; (try simp only [Act.put, Act.eval, zz, Value.cells] at hS)))
  refine C4 (F := [.box g5 27 #[.slice A3 l3.length c3], .box g4 27 #[.slice A3 l3.length c3], .box g3 54 #[.slice Ay my cy, .slice Am mn cm], .box g2 31 #[.int .i64 R, .pointer (some ⟨q, 0, none⟩), .slice Cs ns cs, .slice Ar rl.length cr, .slice An nl.length cn, .slice Ag gl.length cg]]) ?_ [D] _ hS
  intro w' h
  refine ⟨_, results_cell_row rfl _ _ g4 27 _ (0, 0) _ rfl (h.box 1 rfl) Tryz.underlying27 rfl (by kernel_rfl), ?_⟩
  exact AM.mk (by rw [<- HCF.out]; exact (HKP.out _ _ h.ro).2.imp fun z hz _ => hz.2) h.below
end
section
open Go.RowKit
set_option exponentiation.threshold 5000
def CK (a b : Nat) : Prop := ∀ i, a.testBit i = true -> b.testBit i = true
theorem CK.refl (a : Nat) : CK a a := fun _ h => h
theorem CK.trans {a b c : Nat} (h : CK a b) (k : CK b c) : CK a c := fun i hi => k i (h i hi)
theorem CK.left (a b : Nat) : CK a (a ||| b) := fun i h => DT.2 (.inl h)
theorem CK.right (a b : Nat) : CK b (a ||| b) := fun i h => DT.2 (.inr h)
theorem CK.or {a b c : Nat} (h : CK a c) (k : CK b c) : CK (a ||| b) c := fun i hi => (DT.1 hi).elim (h i) (k i)
theorem CK.anti {a b : Nat} (h : CK a b) (k : CK b a) : a = b := Bf fun i => ⟨h i, k i⟩
theorem CK.has {a b : Nat} (h : CK a b) {i : Int} (k : Bn a i = true) : Bn b i = true := by
 unfold Bn at *
 simp only [Bool.and_eq_true, decide_eq_true_eq] at *
 exact ⟨k.1, h _ k.2⟩
theorem meets_iff {a b : Nat} : (a &&& b != 0) = true ↔ ∃ i, a.testBit i = true /\ b.testBit i = true := by
 rw [bne_iff_ne]
 constructor
 ·intro h
  obtain ⟨i, hi⟩ := Nat.exists_testBit_of_ne_zero h
  rw [Nat.testBit_and, Bool.and_eq_true] at hi
  exact ⟨i, hi⟩
 ·rintro ⟨i, h1, h2⟩ e
  have : (a &&& b).testBit i = true := by rw [Nat.testBit_and, h1, h2]; rfl
  rw [e, Nat.zero_testBit] at this
  cases this
theorem CK.meets {a b c : Nat} (h : CK b c) (k : (a &&& b != 0) = true) : (a &&& c != 0) = true := by
 obtain ⟨i, h1, h2⟩ := meets_iff.1 k
 exact meets_iff.2 ⟨i, h1, h i h2⟩
noncomputable def depC (L : List (Nat × Nat)) (z : Nat × Nat) : Nat := depM L (z.1 ||| z.2)
noncomputable def depR (L : List (Nat × Nat)) (r : AW) : Nat := depM L (r.yes ||| r.no)
structure Closed (L : List (Nat × Nat)) (p : Af) (S : Nat) : Prop where
 goal : ∀ c ∈ p.goal, CK (depC L c) S
 rules : ∀ r ∈ p.rules, r.revoke = false -> Bn S r.target = true -> CK (depR L r) S
 never : ∀ c ∈ p.never, (depC L c &&& S != 0) = true -> CK (depC L c) S
noncomputable def relM (L : List (Nat × Nat)) (p : Af) : Nat := maskOf 64 fun i => ∀ T, Closed L p T -> T.testBit i = true
def Jy (L : List (Nat × Nat)) (p : Af) (N : Nat) : Prop := (∀ T, Closed L p T -> CK N T) /\ N < 2 ^ 64
theorem depM_lt (L : List (Nat × Nat)) (N : Nat) : depM L N < 2 ^ 64 := by
 refine Nat.lt_pow_two_of_testBit _ fun i hi => ?_
 by_cases h : (depM L N).testBit i = true
 ·rw [depM, BG] at h; omega
 ·simpa using h
theorem Jy.zero (L : List (Nat × Nat)) (p : Af) : Jy L p 0 := ⟨fun T _ i hi => (by rw [Nat.zero_testBit] at hi; cases hi), by decide⟩
theorem Jy.goal {L : List (Nat × Nat)} {p : Af} {N : Nat} (h : Jy L p N) {c : Nat × Nat} (hc : c ∈ p.goal) : Jy L p (N ||| depC L c) :=
 ⟨fun T hT => (h.1 T hT).or (hT.goal c hc), Nat.or_lt_two_pow h.2 (depM_lt _ _)⟩
theorem Jy.rule {L : List (Nat × Nat)} {p : Af} {N : Nat} (h : Jy L p N) {r : AW} (hr : r ∈ p.rules) (h1 : r.revoke = false) (h2 : Bn N r.target = true) : Jy L p (N ||| depR L r) :=
 ⟨fun T hT => (h.1 T hT).or (hT.rules r hr h1 ((h.1 T hT).has h2)), Nat.or_lt_two_pow h.2 (depM_lt _ _)⟩
theorem Jy.never {L : List (Nat × Nat)} {p : Af} {N : Nat} (h : Jy L p N) {c : Nat × Nat} (hc : c ∈ p.never) (h2 : (depC L c &&& N != 0) = true) : Jy L p (N ||| depC L c) :=
 ⟨fun T hT => (h.1 T hT).or (hT.never c hc ((h.1 T hT).meets h2)), Nat.or_lt_two_pow h.2 (depM_lt _ _)⟩
theorem Jy.eq {L : List (Nat × Nat)} {p : Af} {N : Nat} (h : Jy L p N) (k : Closed L p N) : N = relM L p := Bf fun i => by
 rw [relM, BG]
 refine ⟨fun hi => ⟨?_, fun T hT => h.1 T hT i hi⟩, fun hi => hi.2 N k⟩
 rcases Nat.lt_or_ge i 64 with h1 | h1
 ·exact h1
 ·have := Nat.testBit_lt_two_pow (Nat.lt_of_lt_of_le h.2 (Nat.pow_le_pow_right (by decide) h1))
  rw [this] at hi; cases hi
structure Dx (L : List (Nat × Nat)) (p : Af) (B N i j : Nat) : Prop where
 low : Jy L p N
 sub : CK B N
 goal : ∀ c ∈ p.goal, CK (depC L c) N
 rules : ∀ r ∈ p.rules.take i, r.revoke = false -> Bn B r.target = true -> CK (depR L r) N
 never : ∀ c ∈ p.never.take j, (depC L c &&& B != 0) = true -> CK (depC L c) N
theorem Dx.more {L : List (Nat × Nat)} {p : Af} {B N N' i j : Nat} (h : Dx L p B N i j) (hs : CK N N') (hl : Jy L p N') : Dx L p B N' i j :=
 ⟨hl, h.sub.trans hs, fun c hc => (h.goal c hc).trans hs, fun r hr a b => (h.rules r hr a b).trans hs, fun c hc a => (h.never c hc a).trans hs⟩
theorem Ef {α : Type} {l : List α} {k : Nat} {x y : α} (hk : l[k]? = some x) (h : y ∈ l.take (k + 1)) : y ∈ l.take k \/ y = x := by
 rw [List.take_add_one, hk, List.mem_append] at h
 exact h.imp id fun h => by simpa using h
theorem Dx.ruleY {L : List (Nat × Nat)} {p : Af} {B N i j : Nat} (h : Dx L p B N i j) {r : AW} (hi : p.rules[i]? = some r) (h1 : r.revoke = false) (h2 : Bn N r.target = true) : Dx L p B (N ||| depR L r) (i + 1) j :=
 have h' := h.more (CK.left N (depR L r)) (h.low.rule (List.mem_of_getElem? hi) h1 h2)
 ⟨h'.low, h'.sub, h'.goal, fun x hx a b => (Ef hi hx).elim (fun hx => h'.rules x hx a b) fun e => by subst e; exact CK.right _ _, h'.never⟩
theorem Dx.ruleN {L : List (Nat × Nat)} {p : Af} {B N i j : Nat} (h : Dx L p B N i j) {r : AW} (hi : p.rules[i]? = some r) (h1 : r.revoke = true \/ Bn N r.target = false) : Dx L p B N (i + 1) j :=
 ⟨h.low, h.sub, h.goal, fun x hx a b => (Ef hi hx).elim (fun hx => h.rules x hx a b) fun e => (by
  subst e
  rcases h1 with h1 | h1
  ·rw [h1] at a; cases a
  ·rw [h.sub.has b] at h1; cases h1), h.never⟩
theorem Dx.neverY {L : List (Nat × Nat)} {p : Af} {B N i j : Nat} (h : Dx L p B N i j) {c : Nat × Nat} (hj : p.never[j]? = some c) (h2 : (depC L c &&& N != 0) = true) : Dx L p B (N ||| depC L c) i (j + 1) :=
 have h' := h.more (CK.left N (depC L c)) (h.low.never (List.mem_of_getElem? hj) h2)
 ⟨h'.low, h'.sub, h'.goal, h'.rules, fun x hx a => (Ef hj hx).elim (fun hx => h'.never x hx a) fun e => by subst e; exact CK.right _ _⟩
theorem Dx.neverN {L : List (Nat × Nat)} {p : Af} {B N i j : Nat} (h : Dx L p B N i j) {c : Nat × Nat} (hj : p.never[j]? = some c) (h2 : (depC L c &&& N != 0) = false) : Dx L p B N i (j + 1) :=
 ⟨h.low, h.sub, h.goal, h.rules, fun x hx a => (Ef hj hx).elim (fun hx => h.never x hx a) fun e => by
  subst e
  rw [h.sub.meets a] at h2; cases h2⟩
theorem Dx.start {L : List (Nat × Nat)} {p : Af} {N : Nat} (h : Jy L p N) (k : ∀ c ∈ p.goal, CK (depC L c) N) : Dx L p N N 0 0 :=
 ⟨h, CK.refl _, k, fun _ h => by simp at h, fun _ h => by simp at h⟩
theorem Dx.done {L : List (Nat × Nat)} {p : Af} {N : Nat} (h : Dx L p N N p.rules.length p.never.length) : N = relM L p :=
 h.low.eq ⟨h.goal, fun r hr => h.rules r (by rw [List.take_length]; exact hr), fun c hc => h.never c (by rw [List.take_length]; exact hc)⟩
theorem Dx.lt {L : List (Nat × Nat)} {p : Af} {B N i j : Nat} (h : Dx L p B N i j) (hne : ¬ N = B) : 2 ^ 64 - N < 2 ^ 64 - B := by
 have h1 : B ||| N = N := Bf fun k => ⟨fun hk => (DT.1 hk).elim (h.sub k) id, fun hk => DT.2 (.inr hk)⟩
 have h2 : B <= N := by rw [<- h1]; exact Nat.left_le_or
 have := h.low.2
 omega
end
end Go.Proofs.YtjjhcdkamohgnaaGreatDoor
