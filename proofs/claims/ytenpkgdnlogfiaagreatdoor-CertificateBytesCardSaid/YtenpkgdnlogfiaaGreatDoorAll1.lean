/-
  A set's members, one after the other: what (bits.Set).All and List compute.
-/
import Derived.RangeFuncCalls
import Derived.RangeFuncBox
import Derived.RangeFuncLeaves
import Derived.Shelf.Abstract
import Derived.OwnWalkIn
import Derived.TacticsInMore
import Derived.LoopNIn
import Derived.LoopIn
import Derived.Maps.AppendAt
import Derived.Test.YtenpkgdnlogfiaaGreatDoorTz
import Derived.Test.YtenpkgdnlogfiaaGreatDoorRef1
namespace Go.Proofs.YtenpkgdnlogfiaaGreatDoor
open Go.RowKit Go.Shelf
attribute [local go_sem] Oper.semAt_some
set_option maxRecDepth 100000

theorem memTo_word {ws : List Nat} (hw : Words ws) (k : Nat) : memTo (val ws) (64 * (k + 1)) = memTo (val ws) (64 * k) ++ (bitsW (ws.getD k 0)).map (64 * k + ·) := by
  unfold memTo bitsW
  rw [show 64 * (k + 1) = 64 * k + 64 by omega, List.range_add, List.filter_append, List.filter_map]
  congr 2
  apply List.filter_congr
  intro i hi
  have hi := List.mem_range.1 hi
  simp only [Function.comp]
  rw [testBit_val hw, show (64 * k + i) / 64 = k by omega, show (64 * k + i) % 64 = i by omega]
theorem memTo_words_len {ws : List Nat} (hw : Words ws) (k : Nat) : (memTo (val ws) (64 * (k + 1))).length = (memTo (val ws) (64 * k)).length + (bitsW (ws.getD k 0)).length := by
  rw [memTo_word hw]; simp
theorem memTo_mono (N : Nat) {j k : Nat} (h : j ≤ k) : (memTo N j).length ≤ (memTo N k).length := by
  obtain ⟨d, rfl⟩ := Nat.exists_eq_add_of_le h
  unfold memTo
  rw [List.range_add, List.filter_append]; simp
/-- all members -/
def memL (ws : List Nat) : List Int := natInts (memTo (val ws) (64 * ws.length))

theorem cell_lt {w : World} {p : Addr} {x : Value} (h : w.cell? p = some x) : p.block < w.heap.size := by
  rcases Nat.lt_or_ge p.block w.heap.size with h' | h'
  · exact h'
  · simp [World.cell?, Array.getElem?_eq_none h'] at h
theorem cell_ext {w w' : World} (hb : Below w.heap.size w w') {p : Addr} {x : Value} (h : w.cell? p = some x) : w'.cell? p = some x := (hb.cell (cell_lt h)).trans h
/-- what the iterator reads: the box of the set's slice, its words, the table -/
structure Good (Bs : Nat) (A : Option Addr) (cap : Nat) (ws : List Nat) (W : World) : Prop where
  box : W.cell? ⟨Bs, 0, none⟩ = some (.slice A ws.length cap)
  some_ : 0 < ws.length → ∃ b off, A = some ⟨b, off, none⟩ ∧ ∀ j, j < ws.length → W.cell? ⟨b, off + j, none⟩ = some (.int .u64 (ws.getD j 0 : Nat))
  tab : DTab W

set_option maxHeartbeats 2000000 in
theorem all1_in (l Bs cap : Nat) (A : Option Addr) (ws : List Nat) (hw : Words ws) (hlen : ws.length ≤ 64) (J Jx : List Int → World → Prop)
    (hY : ∀ pre x W, J pre W → pre.length < (memL ws).length → YieldAt Fence.wide 4 Tryz.prog l #[.int .i64 x] W fun e W' =>
      (e = .returned (.bool true) ∧ J (pre ++ [x]) W' ∧ (Good Bs A cap ws W → Good Bs A cap ws W')) ∨ (e = .returned (.bool false) ∧ Jx (pre ++ [x]) W'))
    (W : World) (hG : Good Bs A cap ws W) (h0 : J [] W) :
    CallsIn Fence.wide 5 Tryz.prog 100 #[.func (.yield l) #[] #[], .pointer (some ⟨Bs, 0, none⟩)] W fun e W' => (∃ v, e = .returned v) ∧
      ((∃ ys, ys = memL ws ∧ J ys W') ∨ (∃ pre, pre <+: memL ws ∧ Jx pre W')) := by
  have hBs := hG.box
  have HG := Lib.hid hG
  clear hG
  refine callsIn_of_wp Tryz.func100 rfl trivial ?_ rfl
  simp only [Tryz.ntmps100, List.size_toArray, List.length_cons, List.length_nil, Nat.reduceAdd, Nat.reduceSub, Array.replicate_succ, Array.replicate_zero, List.push_toArray, List.append_toArray, List.nil_append, List.cons_append]
  gi_wp2
  gi_loopw [8] (fun i wr => ∃ k : Nat, k ≤ ws.length ∧ i = .int .i64 k ∧ J (natInts (memTo (val ws) (64 * k))) wr ∧ Hid (Good Bs A cap ws wr)) (fun i _ => ws.length - (intOf i).toNat)
  case atStart => exact ⟨0, Nat.zero_le _, rfl, h0, HG⟩
  case round =>
    obtain ⟨k, hk, rfl, hJs, hnx⟩ := hrel
    by_cases hlt : k < ws.length
    · obtain ⟨b, off, rfl, hc⟩ := hnx.out.some_ (by omega)
      have hcx := hc k hlt
      have HC := Lib.hid hc
      clear hc
      have hx := hw.getD k
      have HM := Lib.hid (memTo_word hw k)
      have HL := Lib.hid (memTo_mono (val ws) (show 64 * (k + 1) ≤ 64 * ws.length by omega))
      generalize ws.getD k 0 = x at *
      gi_wp2
      gi_loopw [4] (fun yv wr => ∃ (y : Nat) (pre : List Nat), yv = .int .u64 y ∧ y < T64 ∧ J (natInts pre) wr ∧ Hid (Good Bs (some ⟨b, off, none⟩) cap ws wr) ∧ Hid (pre ++ (bitsW y).map (64 * k + ·) = memTo (val ws) (64 * (k + 1)))) (fun yv _ => (intOf yv).toNat)
      case atStart => exact ⟨x, _, rfl, hx, hJs, hnx, Lib.hid HM.out.symm⟩
      case round =>
        obtain ⟨y, pre, rfl, hy, hJs, hnx, hP⟩ := hrel
        by_cases h0 : y = 0
        · subst h0
          have hP' : pre = memTo (val ws) (64 * (k + 1)) := by have := hP.out; simpa [bitsW_zero] using this
          subst hP'
          gi_wp2
          exact ⟨⟨k + 1, hlt, by go_num, hJs, hnx⟩, by simp [intOf]; omega⟩
        · have hP2 := hP.out
          rw [bitsW_step hy h0] at hP2
          have hl2 := congrArg List.length hP2
          simp only [List.length_append, List.map_cons, List.length_cons] at hl2
          have hlm := HL.out
          obtain ⟨fn, tmps, assign, body, hyy, hR⟩ := hY (natInts pre) (64 * (k : Int) + (tzN y : Nat)) wr hJs (by simp only [memL, natInts, List.length_map]; omega)
          have hTr := Lib.hid hnx.out.tab
          have ht := tzN_lt hy h0
          have e1 : IntKind.u64.wrap ((y : Int) - 1) = ((y - 1 : Nat) : Int) := by rw [IntKind.wrap_u64]; unfold T64 at hy; omega
          have e2 := and64 hy (b := y - 1) (by omega)
          have e3 := dropLow_lt hy h0
          have hne : ((y : Int) != 0) = true := by simp; omega
          have HP3 := Lib.hid hP2
          clear hP2 hl2
          gi_wp2
          refine ⟨trivial, ?_⟩
          refine (callsIn_wide.2 (tz_any y hy wr hTr.out)).mono ?_
          rintro e w' ⟨rfl, rfl⟩
          gi_wp2
          refine hR.mono ?_
          have hpre : natInts pre ++ [64 * (k : Int) + (tzN y : Nat)] = natInts (pre ++ [64 * k + tzN y]) := by simp [natInts]
          rw [hpre]
          rintro e W3 (⟨rfl, hJ3, hk3⟩ | ⟨rfl, hJx3⟩)
          · gi_wp2
            exact ⟨⟨y &&& (y - 1), pre ++ [64 * k + tzN y], rfl, Nat.lt_trans e3 hy, hJ3, Lib.hid (hk3 hnx.out), Lib.hid (by rw [List.append_assoc]; exact HP3.out)⟩, by simp [intOf]; exact e3⟩
          · gi_wp2
            refine bodyPost_ret (results_none rfl _ _ _) rfl ?_
            refine ⟨⟨_, rfl⟩, .inr ⟨_, ?_, hJx3⟩⟩
            have h1 : memTo (val ws) (64 * (k + 1)) <+: memTo (val ws) (64 * ws.length) := by
              unfold memTo
              obtain ⟨d, hd⟩ := Nat.exists_eq_add_of_le (show 64 * (k + 1) ≤ 64 * ws.length by omega)
              rw [hd, List.range_add, List.filter_append]
              exact List.prefix_append _ _
            have h2 : pre ++ [64 * k + tzN y] <+: memTo (val ws) (64 * (k + 1)) := by
              rw [← HP3.out]
              exact ⟨_, by rw [List.append_assoc]; rfl⟩
            exact (h2.trans h1).map _
    · obtain rfl : k = ws.length := by omega
      gi_wp2
      go_end0
      exact ⟨⟨_, rfl⟩, .inl ⟨_, rfl, hJs⟩⟩

set_option maxHeartbeats 1000000 in
theorem sall_any (v : Value) (N : Nat) (D : Nat → Prop) (w : World) (hv : IsSet w D v N) :
    Calls Tryz.prog 93 #[v] w (Ret (fun x w' => ∃ Bs A cap ws, x = .func (.func 100) #[] #[.pointer (some ⟨Bs, 0, none⟩)] ∧ v = .agg #[.slice A ws.length cap] ∧ Canon ws ∧ val ws = N ∧ Sl w D 1 (.slice A ws.length cap) ws.length (u64s ws) ∧ w.heap.size ≤ Bs ∧ Box w' Bs 51 #[.slice A ws.length cap]) w) := by
  obtain ⟨A, c, l, rfl, hl, rfl, _, _, hs⟩ := hv.parts
  have hS := St.start0 (w := w)
  go_enter Tryz.func93, Tryz.ntmps93
  go_wp2_with ((with_reducible show wpList _ _ _ (⟨some 1, _, _, _, _, _⟩ :: _) _ _); refine wpList_box_op rfl _ _ rfl _ _ rfl rfl ?_; intro w1 hX hB)
  go_ret
  exact Ret.mk ⟨_, A, c, l, rfl, rfl, hl, rfl, hs, Nat.le_refl _, hX⟩ hB
theorem all_stops (Bs cap : Nat) (A : Option Addr) (ws : List Nat) (hw : Words ws) (hlen : ws.length ≤ 64) (w : World) (hG : Good Bs A cap ws w) :
    SeqStopsK Fence.wide 5 Tryz.prog 100 #[.pointer (some ⟨Bs, 0, none⟩)] (fun x : Int => #[Value.int .i64 x]) (fun U V => Good Bs A cap ws U → Good Bs A cap ws V) (fun ys => ys = memL ws) (fun pre => pre <+: memL ws) (memL ws).length w := by
  intro l J Jx W hW _ _ hY h0
  refine all1_in l Bs cap A ws hw hlen J Jx hY W ⟨?_, fun h => ?_, hG.tab.ext hW⟩ h0
  · exact cell_ext hW hG.box
  · obtain ⟨b, off, e, hc⟩ := hG.some_ h
    exact ⟨b, off, e, fun j hj => cell_ext hW (hc j hj)⟩
def Fact.cells : Fact → Bool
  | .obj _ _ => false
  | _ => true
/-- a block that is no cells is turned, or new ones are made -/
theorem St.turn {w0 w w' : World} {F : List Fact} {K : (Nat → Prop) → World → Prop} {row : Option Nat} (h : St w0 w F K) (hg : w.grownBy w' row) (hr : ∀ r, row = some r → w0.heap.size ≤ r ∧ ∃ o : Obj, w.heap[r]? = some o ∧ o.isCells = false) (hF : ∀ f ∈ F, f.cells = true) : St w0 w' F K := by
  have hne : ∀ (p : Addr) (x : Value), w.cell? p = some x → row ≠ some p.block := by
    rintro p x hc e
    obtain ⟨_, o, ho, hn⟩ := hr _ e
    simp only [World.cell?, ho] at hc
    cases o <;> simp_all [Obj.isCells]
  refine ⟨h.below.grown hg h.size (fun k e => (hr k e).1), fun f hf => ?_, h.apart, h.stable, h.stable _ _ _ _ h.ro hg.size (fun p x _ hl hc => ?_) fun _ h _ _ => h⟩
  · refine Fact.kept (h.holds f hf) hg fun k hk e => ?_
    obtain ⟨_, o, ho, hn⟩ := hr k e
    have hh := h.holds f hf
    cases f with
    | box g t cs =>
      injection hk with hk; subst hk
      have := hh.2
      unfold Box at this
      rw [this] at ho; injection ho with ho; subst ho; simp [Obj.isCells] at hn
    | own v e' size n xs =>
      obtain ⟨cs, fr, h1⟩ := own_type hh k hk
      rw [h1] at ho; injection ho with ho; subst ho; simp [Obj.isCells] at hn
    | obj g o => exact absurd (hF _ hf) (by simp [Fact.cells])
  · exact (World.cell?_of_block (hg.block p.block hl fun e => hne p x hc e.symm)).trans hc

theorem St.ownFrom {β : Type} {w0 : World} {K : (Nat → Prop) → World → Prop} (Rel : β → List Fact → Prop) (hRel : ∀ s F, Rel s F → ∀ f ∈ F, f.cells = true) (B : Nat) (hB : w0.heap.size ≤ B) : OwnFrom B fun s W => ∃ F', Rel s F' ∧ St w0 W F' K :=
  fun _ _ _ _ ⟨F', h1, h2⟩ hg hr => ⟨F', h1, h2.turn hg (fun r e => ⟨Nat.le_trans hB (hr r e).1, (hr r e).2⟩) (hRel _ _ h1)⟩
/-- all blocks from B on that are no cells, as facts -/
def others (B : Nat) (W : World) : List Fact := (List.range W.heap.size).filterMap fun i => match W.heap[i]? with
  | some o => if o.isCells = false ∧ B ≤ i then some (.obj i o) else none
  | none => none
theorem others_mem {B : Nat} {W : World} {f : Fact} : f ∈ others B W ↔ ∃ i o, f = .obj i o ∧ W.heap[i]? = some o ∧ o.isCells = false ∧ B ≤ i := by
  unfold others
  rw [List.mem_filterMap]
  constructor
  · rintro ⟨i, hi, h⟩
    cases ho : W.heap[i]? with
    | none => simp [ho] at h
    | some o =>
      simp only [ho] at h
      split at h
      · rename_i hc; injection h with h; exact ⟨i, o, h.symm, ho, hc⟩
      · cases h
  · rintro ⟨i, o, rfl, ho, hc⟩
    refine ⟨i, ?_, by simp only [ho]; rw [if_pos hc]⟩
    have := (Array.getElem?_eq_some_iff.1 ho).1
    simp; omega
theorem others_apart (B : Nat) (W : World) : (others B W).Pairwise fun f g => ∀ k, f.blk = some k → g.blk ≠ some k := by
  unfold others
  refine List.Pairwise.filterMap _ ?_ (List.nodup_range (n := W.heap.size))
  intro i j hij f hf g hg k hk e
  have h1 : ∀ {i : Nat} {f : Fact}, (match W.heap[i]? with
    | some o => if o.isCells = false ∧ B ≤ i then some (Fact.obj i o) else none
    | none => none) = some f → f.blk = some i := by
    intro i f h
    cases ho : W.heap[i]? with
    | none => simp [ho] at h
    | some o =>
      simp only [ho] at h
      split at h
      · injection h with h; subst h; rfl
      · cases h
  have e1 := h1 (i := i) (f := f) hf
  have e2 := h1 (i := j) (f := g) hg
  rw [e1] at hk; rw [e2] at e
  injection hk with hk; injection e with e
  exact hij (hk.trans e.symm)
theorem fact_cells_block {base : Nat} {W : World} {f : Fact} (h : f.holds base W) (hc : f.cells = true) {k : Nat} (hk : f.blk = some k) {o : Obj} (ho : W.heap[k]? = some o) : o.isCells = true := by
  cases f with
  | box g t cs =>
    injection hk with hk; subst hk
    have := h.2
    unfold Box at this
    rw [this] at ho; injection ho with ho; subst ho; rfl
  | own v e size n xs =>
    obtain ⟨cs, fr, h1⟩ := own_type h k hk
    rw [h1] at ho; injection ho with ho; subst ho; rfl
  | obj g o => simp [Fact.cells] at hc
theorem St.withOthers {w0 W : World} {F : List Fact} {K : (Nat → Prop) → World → Prop} (h : St w0 W F K) (hF : ∀ f ∈ F, f.cells = true) {B : Nat} (hB : w0.heap.size ≤ B) : St w0 W (F ++ others B W) K := by
  refine ⟨h.below, fun f hf => ?_, ?_, h.stable, ?_⟩
  · rcases List.mem_append.1 hf with hf | hf
    · exact h.holds f hf
    · obtain ⟨i, o, rfl, ho, _, hi⟩ := others_mem.1 hf
      exact ⟨Nat.le_trans hB hi, ho⟩
  · refine List.pairwise_append.2 ⟨h.apart, others_apart B W, fun f hf g hg k hk e => ?_⟩
    obtain ⟨i, o, rfl, ho, hc, hi⟩ := others_mem.1 hg
    injection e with e; subst e
    have := fact_cells_block (h.holds f hf) (hF f hf) hk ho
    rw [hc] at this; cases this
  · refine h.stable _ _ _ _ h.ro (Nat.le_refl _) (fun _ _ _ _ h => h) fun b hb _ hcell f hf e => ?_
    rcases List.mem_append.1 hf with hf | hf
    · exact hb f hf e
    · obtain ⟨i, o, rfl, ho, hc, hi⟩ := others_mem.1 hf
      injection e with e; subst e
      obtain ⟨cs, t, fr, hh⟩ := hcell
      rw [hh] at ho; injection ho with ho; subst ho; simp [Obj.isCells] at hc
/-- what a round of a loop over a set's members owes -/
def roundPost (w0 : World) (K : (Nat → Prop) → World → Prop) (X : List Fact) (Rel : List Int → List Fact → Prop) (RelX : Code → List Int → List Fact → Prop) (pre : List Int) : Exit → Act → World → Prop
  | .normal, _, W' => ∃ F', Rel pre F' ∧ St w0 W' (F' ++ X) K
  | .ret, _, W' => ∃ F', RelX .ret pre F' ∧ St w0 W' (F' ++ X) K
  | .exit id, _, W' => ∃ F', RelX (.exit id) pre F' ∧ St w0 W' (F' ++ X) K
  | .goto t, _, W' => ∃ F', RelX (.goto t) pre F' ∧ St w0 W' (F' ++ X) K
  | _, _, _ => False
theorem St.keepsFrom {w0 W W' : World} {F : List Fact} {K : (Nat → Prop) → World → Prop} {B : Nat} (h : St w0 W' (F ++ others B W) K) (hs : W.heap.size ≤ W'.heap.size) : KeepsFrom B W W' :=
  ⟨hs, fun i o hi ho hc => (h.holds _ (List.mem_append_right _ (others_mem.2 ⟨i, o, rfl, ho, hc, hi⟩))).2⟩
theorem stable_size (n : Nat) : Stable fun _ w => n ≤ w.heap.size := fun _ _ _ _ h a _ _ => Nat.le_trans h a
/-- 'for i := range s.All() { .. }' -/
theorem range_all {g : Operand} {ps : Array Tmp} {assign body : Code} {Q : Exit → Act → World → Prop} {a : Act} {w0 w : World} {F : List Fact} {K : (Nat → Prop) → World → Prop}
    (hS : St w0 w F K) {Bs cap : Nat} {A : Option Addr} {ws : List Nat} (hw : Words ws) (hlen : ws.length ≤ 64) (kG : ∀ D w, K D w → Good Bs A cap ws w)
    (hg : a.eval g = .func (.func 100) #[] #[.pointer (some ⟨Bs, 0, none⟩)]) (hps : ps.size = 1)
    (Rel : List Int → List Fact → Prop) (RelX : Code → List Int → List Fact → Prop) (hR : ∀ s F, Rel s F → ∀ f ∈ F, f.cells = true) (hRX : ∀ c s F, RelX c s F → ∀ f ∈ F, f.cells = true) (h0 : Rel [] F) (a₁ : Int → Act)
    (hassign : ∀ (l : Nat) (x : Int) (W : World) (K : Act → World → Prop), K (a₁ x) W →
      assign.wpIn (Fence.wide.inRound l) 4 Tryz.prog (Exit.then K (fun _ _ _ => False)) { tmps := (ps.zip #[Value.int .i64 x]).foldl (fun t (p, v) => t.setIfInBounds p v) a.tmps, defers := [] } W)
    (hbody : ∀ (l : Nat) (pre : List Int) (x : Int) (W : World) (F' X : List Fact), Rel pre F' → St w0 W (F' ++ X) (fun D w => K D w ∧ W.heap.size ≤ w.heap.size) → pre.length < (memL ws).length → body.wpIn (Fence.wide.inRound l) 4 Tryz.prog (roundPost w0 (fun D w => K D w ∧ W.heap.size ≤ w.heap.size) X Rel RelX (pre ++ [x])) (a₁ x) W)
    (hdone : ∀ (D : Nat) (W : World) (F' : List Fact), w.heap.size ≤ D → Rel (memL ws) F' → St w0 W F' K → W.heap[D]? = some (.deferred (some [])) → Q .normal { a with defers := { target := .collected D, args := #[] } :: a.defers } W)
    (hstop : ∀ (D : Nat) (c : Code) (pre : List Int) (W : World) (F' : List Fact), w.heap.size ≤ D → pre <+: memL ws → RelX c pre F' → St w0 W F' K → W.heap[D]? = some (.deferred (some [])) → c.wpIn Fence.wide 6 Tryz.prog Q { a with defers := { target := .collected D, args := #[] } :: a.defers } W) :
    (Code.rangeFunc g ps assign body).wpIn Fence.wide 6 Tryz.prog Q a w := by
  refine wpIn_rangeFunc_ownG rfl (by omega) hg trivial (enters_of Tryz.func100 (by kernel_rfl) rfl) (all_stops Bs cap A ws hw hlen w (kG _ _ hS.ro)) (fun h k x => k (h x)) ?kb (Below.refl _ _) (fun _ => by simp [hps])
    (fun pre W => (∃ F', Rel pre F' ∧ St w0 W F' K) ∧ True) (fun c pre W => ∃ F', RelX c pre F' ∧ St w0 W F' K) ?hI (fun c => St.ownFrom (RelX c) (hRX c) _ hS.size) ⟨⟨F, h0, hS⟩, trivial⟩ a₁ hassign ?body ?done ?stop
  case kb =>
    intro W l o o' _ ho hc _ hG
    have key : ∀ {p : Addr} {x : Value}, W.cell? p = some x → (W.putObj l o').cell? p = some x := by
      intro p x hx
      refine (World.cell?_of_block (World.putObj_heap_other ?_)).trans hx
      rintro rfl
      simp only [World.cell?, ho] at hx
      cases o <;> simp_all [Obj.isCells]
    refine ⟨key hG.box, fun h => ?_, fun q hq => key (hG.tab q hq)⟩
    obtain ⟨b, off, e, hh⟩ := hG.some_ h
    exact ⟨b, off, e, fun j hj => key (hh j hj)⟩
  case hI => exact fun s X Y row h1 hg hr => ⟨St.ownFrom Rel hR _ hS.size s X Y row h1.1 hg hr, trivial⟩
  case body =>
    rintro l pre x W ⟨⟨F', h1, h2⟩, _⟩ hlt
    refine wpIn_mono (hbody l pre x W F' (others w.heap.size W) h1 ((h2.withOthers (hR _ _ h1) hS.size).add (D := fun _ => False) (stable_size W.heap.size) (Nat.le_refl _) fun _ h _ => h.elim) hlt) ?_
    rintro e a3 W3 hp
    have hsub : ∀ {F'' : List Fact}, St w0 W3 (F'' ++ others w.heap.size W) (fun D w => K D w ∧ W.heap.size ≤ w.heap.size) → St w0 W3 F'' K := fun h => (h.sub (List.sublist_append_left _ _)).mono hS.stable fun _ _ h => h.1
    cases e with
    | normal =>
      obtain ⟨F'', h3, h4⟩ := hp
      exact ⟨h4.keepsFrom h4.ro.2, fun _ => kG _ _ h4.ro.1, ⟨F'', h3, hsub h4⟩, trivial⟩
    | ret => obtain ⟨F'', h3, h4⟩ := hp; exact ⟨h4.keepsFrom h4.ro.2, F'', h3, hsub h4⟩
    | exit id => obtain ⟨F'', h3, h4⟩ := hp; exact ⟨h4.keepsFrom h4.ro.2, F'', h3, hsub h4⟩
    | goto t => obtain ⟨F'', h3, h4⟩ := hp; exact ⟨h4.keepsFrom h4.ro.2, F'', h3, hsub h4⟩
    | panic ch => exact hp.elim
    | outgrown => exact hp.elim
  case done =>
    rintro D xs W hD rfl ⟨⟨F', h1, h2⟩, _⟩ hk
    exact hdone D W F' hD h1 h2 hk
  case stop =>
    rintro D c pre W hD hp ⟨F', h1, h2⟩ hk
    exact hstop D c pre W F' hD hp h1 h2 hk

/-- what the iterator reads, as something that only reads -/
def GoodK (Bs : Nat) (A : Option Addr) (cap : Nat) (ws : List Nat) (D : Nat → Prop) (w : World) : Prop :=
  Good Bs A cap ws w ∧ D Bs ∧ (∀ b off, A = some ⟨b, off, none⟩ → 0 < ws.length → D b) ∧ D 0
theorem stable_good {Bs cap : Nat} {A : Option Addr} {ws : List Nat} : Stable (GoodK Bs A cap ws) := by
  rintro D D' w w' ⟨h, d1, d2, d3⟩ a b c
  have l1 := cell_lt h.box
  have l3 := cell_lt (h.tab 0 (by omega))
  refine ⟨⟨b _ _ d1 l1 h.box, fun h0 => ?_, fun q hq => b _ _ d3 (cell_lt (h.tab q hq)) (h.tab q hq)⟩, c _ d1 l1 (cell_is h.box), fun k o e h0 => ?_, c _ d3 l3 (cell_is (h.tab 0 (by omega)))⟩
  · obtain ⟨k, o, e, hh⟩ := h.some_ h0
    exact ⟨k, o, e, fun j hj => b _ _ (d2 k o e h0) (cell_lt (hh j hj)) (hh j hj)⟩
  · obtain ⟨k', o', e', hh⟩ := h.some_ h0
    rw [e] at e'; injection e' with e'; injection e' with e1 e2; subst e1 e2
    exact c _ (d2 _ _ e h0) (cell_lt (hh 0 h0)) (cell_is (hh 0 h0))
theorem dtab_stable : Stable fun D w => DTab w ∧ D 0 := by
  rintro D D' w w' ⟨h, d⟩ a b c
  exact ⟨fun q hq => b _ _ d (cell_lt (h q hq)) (h q hq), c _ d (cell_lt (h 0 (by omega))) (cell_is (h 0 (by omega)))⟩
/-- behind a call of All: what is known, the iterator's data with it -/
theorem St.good {w0 w w' : World} {F : List Fact} {K : (Nat → Prop) → World → Prop} (h : St w0 w F K) (hb : Below w.heap.size w w') {Bs cap : Nat} {A : Option Addr} {ws : List Nat} (hs : Sl w (Free F) 1 (.slice A ws.length cap) ws.length (u64s ws)) (hT : DTab w) (hF : Free F 0)
    (hB : w.heap.size ≤ Bs) (hX : Box w' Bs 51 #[.slice A ws.length cap]) : St w0 w' F fun D w => K D w ∧ GoodK Bs A cap ws D w := by
  refine (h.ext hb).add (D := Free F) stable_good ⟨⟨(hX.cell 0).trans rfl, fun h0 => ?_, hT.ext hb⟩, h.fresh hB, fun b off e h0 => ?_, hF⟩ fun _ h _ => h
  · obtain ⟨_, A', c', e, _, _, h2⟩ := hs
    obtain ⟨b, o, h3, h4, h6, h5⟩ := h2 h0
    injection e with e
    exact ⟨b, o, e.trans h3, fun j hj => cell_ext hb (h5 j _ (u64s_at _ _ hj))⟩
  · obtain ⟨_, A', c', e', _, _, h2⟩ := hs
    obtain ⟨b', o', h3, h4, h6, h5⟩ := h2 h0
    injection e' with e'
    rw [e, h3] at e'; injection e' with e'; injection e' with e1; subst e1; exact h4

theorem memL_eq {l : List Nat} (h : Canon l) (hN : val l < T64) : memL l = natInts (members (val l)) := by
  have hl : l.length ≤ 1 := by
    rcases Nat.lt_or_ge 1 l.length with h1 | h1
    · have h2 := canon_last h (by omega)
      rw [← wd_val h.1, wd, Nat.shiftRight_eq_div_pow] at h2
      have : val l / 2 ^ (64 * (l.length - 1)) = 0 := by
        apply Nat.div_eq_of_lt
        refine Nat.lt_of_lt_of_le hN ?_
        rw [T64_eq]; exact Nat.pow_le_pow_right (by decide) (by omega)
      rw [this] at h2; simp at h2
    · exact h1
  match l, hl with
  | [], _ => simp [memL, val, memTo, members, natInts]
  | [x], _ => rfl

section
variable {P : Program} {o : Oper} {a : Act} {w : World} {K K' : Act → World → Prop} {Q : Exit → Act → World → Prop} {ops : Array Oper}
theorem opw_mono (h : o.wp P a w K Q) (hk : ∀ a w, K a w → K' a w) : o.wp P a w K' Q := by
  unfold Oper.wp at *
  generalize (execOp a.eval o).run P w = r at *
  cases r with
  | halt x w' => cases x <;> exact h
  | ok x w' =>
    cases x with
    | value v => exact hk _ _ h
    | skip => exact hk _ _ h
    | defer d => exact hk _ _ h
    | enter f args => exact Calls.mono h fun e w' h => by cases e <;> first | exact hk _ _ h | exact h
    | row r args => exact Rows.mono h fun v w' h => hk _ _ h
    | _ => exact h.elim
/-- an operation in a round of a loop over an iterator, by its plain word -/
theorem opIn_of (l n : Nat) (h : o.wp P a w K Q) (hd : ∀ c, o.op ≠ .defer c) : o.wpIn (Fence.wide.inRound l) n P a w K Q := by
  refine ⟨fun _ _ => trivial, ?_⟩
  rw [Oper.semAt_eq _ _ _ hd]
  unfold Oper.wp at h
  generalize (execOp a.eval o).run P w = r at *
  cases r with
  | halt x w' => cases x <;> exact h
  | ok x w' =>
    cases x with
    | value v => exact h
    | skip => exact h
    | defer d => exact h
    | enter f args => exact ⟨fun h => by simp [Fence.wide] at h, CallsIn.inRound l ((callsIn_wide (n := n - 1)).2 (Calls.mono h fun e w' h => by cases e <;> exact h))⟩
    | row r args => exact ⟨fun h => by simp [Fence.wide] at h, fun c cs _ => let ⟨v, w', r, s⟩ := h c cs; ⟨v, w', r, stepsIn_wide.2 s⟩⟩
    | _ => exact h.elim
def noDefer (l : List Oper) : Bool := l.all fun o => match o.op with | .defer _ => false | _ => true
theorem listIn_of (hQ : ∀ a w, ¬ Q .outgrown a w) (r n : Nat) (l : List Oper) (hd : noDefer l = true) : ∀ a w, wpList P ops Q l a w → wpListIn (Fence.wide.inRound r) n P ops Q l a w := by
  induction l with
  | nil => exact fun a w h => h
  | cons o l ih =>
    intro a w h
    simp only [noDefer, List.all_cons, Bool.and_eq_true] at hd
    have ih := ih (by simpa [noDefer] using hd.2)
    refine wpListIn_step fun K hK => ?_
    unfold wpList at h
    by_cases hw : Region.wanted o (yielded ops a.tmps) = true
    · rw [if_pos hw] at h ⊢
      rcases h with h | ⟨_, a', w', h⟩
      · exact opIn_of _ _ (opw_mono h fun a w h => hK _ _ (ih _ _ h)) fun c e => by rw [e] at hd; simp at hd
      · exact absurd h (hQ _ _)
    · rw [if_neg hw] at h ⊢
      exact ⟨fun _ _ => trivial, hK _ _ (ih _ _ h)⟩
end
theorem roundPost_out {w0 : World} {K : (Nat → Prop) → World → Prop} {X : List Fact} {Rel : List Int → List Fact → Prop} {RelX : Code → List Int → List Fact → Prop} {pre : List Int} {a : Act} {w : World} (h : roundPost w0 K X Rel RelX pre .outgrown a w) : False := h

set_option maxHeartbeats 2000000 in
/-- (bits.Set).List: the members, ascending -/
theorem slist_any (v : Value) (N : Nat) (D : Nat → Prop) (w0 : World) (hv : IsSet w0 D v N) (hT : DTab w0) :
    Calls Tryz.prog 72 #[v] w0 (Ret (fun x w' => ∃ ws, Canon ws ∧ val ws = N ∧ Sl w' (w0.heap.size ≤ ·) 1 x (memL ws).length (ints (memL ws))) w0) := by
  obtain ⟨A, c, l, rfl, hl, rfl, _, _, hs⟩ := hv.parts
  obtain ⟨K, k1, k2, hS⟩ : ∃ K : (Nat → Prop) → World → Prop, (∀ D w, K D w → IsSet w D (.agg #[.slice A l.length c]) (val l)) ∧ (∀ D w, K D w → DTab w ∧ D 0) ∧ St w0 w0 [] K :=
    ⟨fun D w => IsSet w D (.agg #[.slice A l.length c]) (val l) ∧ DTab w ∧ D 0, fun _ _ h => h.1, fun _ _ h => h.2, St.start (D := fun _ => True) (stable_set.and dtab_stable) ⟨hv.imp fun _ _ _ => trivial, hT, trivial⟩⟩
  clear hs hv hT
  refine (callsIn_wide (n := 6)).1 (callsIn_of_wp_marks Tryz.func72 rfl trivial ?_ rfl)
  simp only [Tryz.ntmps72, List.size_toArray, List.length_cons, List.length_nil, Nat.reduceAdd, Nat.reduceSub, Array.replicate_succ, Array.replicate_zero, List.push_toArray, List.append_toArray, List.nil_append, List.cons_append]
  refine wpIn_wide.2 ?_
  go_wp2_with (first
    | ((with_reducible show wpList _ _ _ (⟨some 1, _, _, _, _, _⟩ :: _) _ _); refine st_box hS rfl _ _ rfl _ _ rfl rfl ?_; clear hS; intro g w_ hS; (try simp only [Act.put, Act.eval, List.set_cons_zero, List.set_cons_succ, List.setIfInBounds_toArray, Array.getD_eq_getD_getElem?, List.getElem?_toArray, List.getElem?_cons_succ, List.getElem?_cons_zero, Option.getD_some, Value.cells] at hS))
    | ((with_reducible show wpList _ _ _ (⟨_, .load _ _, _, _, _, _⟩ :: _) _ _); first | refine st_load hS 0 rfl _ _ rfl _ rfl _ _ rfl _ Tryz.underlying51 rfl (by kernel_rfl) ?_ | refine st_load hS 1 rfl _ _ rfl _ rfl _ _ rfl _ Tryz.underlying51 rfl (by kernel_rfl) ?_ | refine st_load hS 2 rfl _ _ rfl _ rfl _ _ rfl _ Tryz.underlying51 rfl (by kernel_rfl) ?_ | refine st_load hS 3 rfl _ _ rfl _ rfl _ _ rfl _ Tryz.underlying51 rfl (by kernel_rfl) ?_)
    | ((with_reducible show wpList _ _ _ (⟨some 3, _, _, _, _, _⟩ :: _) _ _); refine st_allocz hS rfl _ rfl (by kernel_rfl) #[.slice none 0 0] (by kernel_rfl) ?_; clear hS; intro go w_ hS; (try simp only [Act.put, Act.eval, List.set_cons_zero, List.set_cons_succ, List.setIfInBounds_toArray, Array.getD_eq_getD_getElem?, List.getElem?_toArray, List.getElem?_cons_succ, List.getElem?_cons_zero, Option.getD_some, Value.cells] at hS))
    | ((with_reducible show wpList _ _ _ (⟨_, .store _ _ _, _, _, _, _⟩ :: _) _ _); first | (refine st_store hS 0 rfl _ _ _ rfl _ _ rfl rfl _ _ rfl (by kernel_rfl) (by kernel_rfl) (by kernel_rfl) ?_; clear hS; intro w_ hS; (try simp only [Act.put, Act.eval, List.set_cons_zero, List.set_cons_succ, List.setIfInBounds_toArray, Array.getD_eq_getD_getElem?, List.getElem?_toArray, List.getElem?_cons_succ, List.getElem?_cons_zero, Option.getD_some, Value.cells] at hS)) | (refine st_store hS 1 rfl _ _ _ rfl _ _ rfl rfl _ _ rfl (by kernel_rfl) (by kernel_rfl) (by kernel_rfl) ?_; clear hS; intro w_ hS; (try simp only [Act.put, Act.eval, List.set_cons_zero, List.set_cons_succ, List.setIfInBounds_toArray, Array.getD_eq_getD_getElem?, List.getElem?_toArray, List.getElem?_cons_succ, List.getElem?_cons_zero, Option.getD_some, Value.cells] at hS)) | (refine st_store hS 2 rfl _ _ _ rfl _ _ rfl rfl _ _ rfl (by kernel_rfl) (by kernel_rfl) (by kernel_rfl) ?_; clear hS; intro w_ hS; (try simp only [Act.put, Act.eval, List.set_cons_zero, List.set_cons_succ, List.setIfInBounds_toArray, Array.getD_eq_getD_getElem?, List.getElem?_toArray, List.getElem?_cons_succ, List.getElem?_cons_zero, Option.getD_some, Value.cells] at hS)) | (refine st_store hS 3 rfl _ _ _ rfl _ _ rfl rfl _ _ rfl (by kernel_rfl) (by kernel_rfl) (by kernel_rfl) ?_; clear hS; intro w_ hS; (try simp only [Act.put, Act.eval, List.set_cons_zero, List.set_cons_succ, List.setIfInBounds_toArray, Array.getD_eq_getD_getElem?, List.getElem?_toArray, List.getElem?_cons_succ, List.getElem?_cons_zero, Option.getD_some, Value.cells] at hS)) | (refine st_cstore hS 0 rfl _ _ _ rfl _ _ _ rfl rfl rfl (by first | (simp; done) | (simp; omega) | exact of_decide_eq_true (by kernel_rfl)) rfl (by first | rfl | assumption) (by kernel_rfl) ?_; clear hS; intro w_ hS; (try simp only [Act.put, Act.eval, List.set_cons_zero, List.set_cons_succ, List.setIfInBounds_toArray, Array.getD_eq_getD_getElem?, List.getElem?_toArray, List.getElem?_cons_succ, List.getElem?_cons_zero, Option.getD_some, Value.cells] at hS)) | (refine st_cstore hS 1 rfl _ _ _ rfl _ _ _ rfl rfl rfl (by first | (simp; done) | (simp; omega) | exact of_decide_eq_true (by kernel_rfl)) rfl (by first | rfl | assumption) (by kernel_rfl) ?_; clear hS; intro w_ hS; (try simp only [Act.put, Act.eval, List.set_cons_zero, List.set_cons_succ, List.setIfInBounds_toArray, Array.getD_eq_getD_getElem?, List.getElem?_toArray, List.getElem?_cons_succ, List.getElem?_cons_zero, Option.getD_some, Value.cells] at hS)) | (refine st_cstore hS 2 rfl _ _ _ rfl _ _ _ rfl rfl rfl (by first | (simp; done) | (simp; omega) | exact of_decide_eq_true (by kernel_rfl)) rfl (by first | rfl | assumption) (by kernel_rfl) ?_; clear hS; intro w_ hS; (try simp only [Act.put, Act.eval, List.set_cons_zero, List.set_cons_succ, List.setIfInBounds_toArray, Array.getD_eq_getD_getElem?, List.getElem?_toArray, List.getElem?_cons_succ, List.getElem?_cons_zero, Option.getD_some, Value.cells] at hS)) | (refine st_cstore hS 3 rfl _ _ _ rfl _ _ _ rfl rfl rfl (by first | (simp; done) | (simp; omega) | exact of_decide_eq_true (by kernel_rfl)) rfl (by first | rfl | assumption) (by kernel_rfl) ?_; clear hS; intro w_ hS; (try simp only [Act.put, Act.eval, List.set_cons_zero, List.set_cons_succ, List.setIfInBounds_toArray, Array.getD_eq_getD_getElem?, List.getElem?_toArray, List.getElem?_cons_succ, List.getElem?_cons_zero, Option.getD_some, Value.cells] at hS)))
    | ((with_reducible show wpList _ _ _ (⟨_, .load _ _, _, _, _, _⟩ :: _) _ _); first | (refine st_cell hS 0 rfl _ _ rfl _ _ rfl _ _ rfl (by decide +kernel) _ (by first | assumption | rfl) ?_) | (refine st_cell hS 1 rfl _ _ rfl _ _ rfl _ _ rfl (by decide +kernel) _ (by first | assumption | rfl) ?_) | (refine st_cell hS 2 rfl _ _ rfl _ _ rfl _ _ rfl (by decide +kernel) _ (by first | assumption | rfl) ?_))
    | ((with_reducible show wpList _ _ _ (⟨some 7, _, _, _, _, _⟩ :: _) _ _); refine st_mkcap hS rfl _ _ _ rfl ty_ints _ _ n rfl rfl (by omega) (by omega) ?_; clear hS; intro gr w_ hS)
    | (go_at_call 92; refine (len_any _ _ _ _ (k1 _ _ hS.ro)).mono ?_; rintro e w2 ⟨_, rfl, ⟨n, hn, rfl⟩, hb2⟩; replace hS := hS.ext hb2))
  refine (sall_any _ _ _ _ (k1 _ _ hS.ro)).mono ?_
  rintro e w3 ⟨_, rfl, ⟨Bs, A', cap, ws, rfl, e1, hcn, hvN, hsl, hBs, hX⟩, hb3⟩
  obtain rfl := canon_eq hcn hl hvN
  obtain ⟨rfl, rfl⟩ : A = A' ∧ c = cap := by simpa using e1
  clear e1 hvN
  obtain ⟨hT, hT0⟩ := k2 _ _ hS.ro
  replace hS := hS.good hb3 hsl hT hT0 hBs hX
  go_wp2_with fail
  have hsz3 := hS.size
  refine (wpIn_wide (n := 6)).1 ?_
  refine range_all hS hcn.1 hcn.2.2 (fun _ _ h => h.2.1) rfl rfl
    (fun pre F' => ∃ v cs, F' = [.box go 22 #[v], .own v 3 1 pre.length (ints pre), .box g 51 cs]) (fun _ _ _ => False) ?hr (fun _ _ _ h => h.elim) ⟨_, _, rfl⟩
    (fun x => { tmps := #[.agg #[.slice A ws.length c], .pointer (some ⟨g, 0, none⟩), .slice none 0 0, .pointer (some ⟨go, 0, none⟩), .int .i64 x, .agg #[.slice A ws.length c], .int .i64 n, .slice (some ⟨gr, 0, none⟩) 0 n, .agg #[.slice A ws.length c], .func (.func 100) #[] #[.pointer (some ⟨Bs, 0, none⟩)], .int .i64 x, undef, undef, undef, undef, undef], defers := [] }) ?assign ?body ?done ?stop
  case hr =>
    rintro s F ⟨v, cs, rfl⟩ f hf
    simp at hf
    rcases hf with rfl | rfl | rfl <;> rfl
  case assign =>
    intro l x W K hK
    gi_wp2
    exact hK
  case body =>
    rintro l pre x W F' X ⟨v, cs, rfl⟩ hS hlt
    have hml : (memL ws).length ≤ 4096 := by
      have := memTo_len (val ws) (64 * ws.length)
      have := hcn.2.2
      simp [memL, natInts]; omega
    simp only [List.cons_append, List.nil_append] at hS
    refine wpIn_block ?_
    refine wpIn_region_lit ?_
    refine listIn_of (by intro _ _ h; exact h) _ _ _ (by rfl) _ _ ?_
    go_wp2_with (first
      | ((with_reducible show wpList _ _ _ (⟨_, .load _ _, _, _, _, _⟩ :: _) _ _); first | (refine st_cell hS 0 rfl _ _ rfl _ _ rfl _ _ rfl (by decide +kernel) _ (by first | assumption | rfl) ?_) | (refine st_cell hS 1 rfl _ _ rfl _ _ rfl _ _ rfl (by decide +kernel) _ (by first | assumption | rfl) ?_) | (refine st_cell hS 2 rfl _ _ rfl _ _ rfl _ _ rfl (by decide +kernel) _ (by first | assumption | rfl) ?_))
      | ((with_reducible show wpList _ _ _ (⟨_, .store _ _ _, _, _, _, _⟩ :: _) _ _); first | (refine st_store hS 0 rfl _ _ _ rfl _ _ rfl rfl _ _ rfl (by kernel_rfl) (by kernel_rfl) (by kernel_rfl) ?_; clear hS; intro w_ hS; (try simp only [Act.put, Act.eval, List.set_cons_zero, List.set_cons_succ, List.setIfInBounds_toArray, Array.getD_eq_getD_getElem?, List.getElem?_toArray, List.getElem?_cons_succ, List.getElem?_cons_zero, Option.getD_some, Value.cells] at hS)) | (refine st_store hS 1 rfl _ _ _ rfl _ _ rfl rfl _ _ rfl (by kernel_rfl) (by kernel_rfl) (by kernel_rfl) ?_; clear hS; intro w_ hS; (try simp only [Act.put, Act.eval, List.set_cons_zero, List.set_cons_succ, List.setIfInBounds_toArray, Array.getD_eq_getD_getElem?, List.getElem?_toArray, List.getElem?_cons_succ, List.getElem?_cons_zero, Option.getD_some, Value.cells] at hS)) | (refine st_store hS 2 rfl _ _ _ rfl _ _ rfl rfl _ _ rfl (by kernel_rfl) (by kernel_rfl) (by kernel_rfl) ?_; clear hS; intro w_ hS; (try simp only [Act.put, Act.eval, List.set_cons_zero, List.set_cons_succ, List.setIfInBounds_toArray, Array.getD_eq_getD_getElem?, List.getElem?_toArray, List.getElem?_cons_succ, List.getElem?_cons_zero, Option.getD_some, Value.cells] at hS)) | (refine st_store hS 3 rfl _ _ _ rfl _ _ rfl rfl _ _ rfl (by kernel_rfl) (by kernel_rfl) (by kernel_rfl) ?_; clear hS; intro w_ hS; (try simp only [Act.put, Act.eval, List.set_cons_zero, List.set_cons_succ, List.setIfInBounds_toArray, Array.getD_eq_getD_getElem?, List.getElem?_toArray, List.getElem?_cons_succ, List.getElem?_cons_zero, Option.getD_some, Value.cells] at hS)) | (refine st_cstore hS 0 rfl _ _ _ rfl _ _ _ rfl rfl rfl (by first | (simp; done) | (simp; omega) | exact of_decide_eq_true (by kernel_rfl)) rfl (by first | rfl | assumption) (by kernel_rfl) ?_; clear hS; intro w_ hS; (try simp only [Act.put, Act.eval, List.set_cons_zero, List.set_cons_succ, List.setIfInBounds_toArray, Array.getD_eq_getD_getElem?, List.getElem?_toArray, List.getElem?_cons_succ, List.getElem?_cons_zero, Option.getD_some, Value.cells] at hS)) | (refine st_cstore hS 1 rfl _ _ _ rfl _ _ _ rfl rfl rfl (by first | (simp; done) | (simp; omega) | exact of_decide_eq_true (by kernel_rfl)) rfl (by first | rfl | assumption) (by kernel_rfl) ?_; clear hS; intro w_ hS; (try simp only [Act.put, Act.eval, List.set_cons_zero, List.set_cons_succ, List.setIfInBounds_toArray, Array.getD_eq_getD_getElem?, List.getElem?_toArray, List.getElem?_cons_succ, List.getElem?_cons_zero, Option.getD_some, Value.cells] at hS)) | (refine st_cstore hS 2 rfl _ _ _ rfl _ _ _ rfl rfl rfl (by first | (simp; done) | (simp; omega) | exact of_decide_eq_true (by kernel_rfl)) rfl (by first | rfl | assumption) (by kernel_rfl) ?_; clear hS; intro w_ hS; (try simp only [Act.put, Act.eval, List.set_cons_zero, List.set_cons_succ, List.setIfInBounds_toArray, Array.getD_eq_getD_getElem?, List.getElem?_toArray, List.getElem?_cons_succ, List.getElem?_cons_zero, Option.getD_some, Value.cells] at hS)) | (refine st_cstore hS 3 rfl _ _ _ rfl _ _ _ rfl rfl rfl (by first | (simp; done) | (simp; omega) | exact of_decide_eq_true (by kernel_rfl)) rfl (by first | rfl | assumption) (by kernel_rfl) ?_; clear hS; intro w_ hS; (try simp only [Act.put, Act.eval, List.set_cons_zero, List.set_cons_succ, List.setIfInBounds_toArray, Array.getD_eq_getD_getElem?, List.getElem?_toArray, List.getElem?_cons_succ, List.getElem?_cons_zero, Option.getD_some, Value.cells] at hS)))
      | ((with_reducible show wpList _ _ _ (⟨some 13, _, _, _, _, _⟩ :: _) _ _); refine st_push hS 1 rfl rfl _ _ _ _ rfl rfl ty_ints v pre.length (ints pre) (.int .i64 x) #[.int .i64 x] rfl (by kernel_rfl) rfl rfl rfl rfl (by intro u hu; simp at hu; subst hu; rfl) (by omega) (by omega) ?_; clear hS; intro z_ v' w_ hS; (try simp only [Act.put, Act.eval, List.set_cons_zero, List.set_cons_succ, List.setIfInBounds_toArray, Array.getD_eq_getD_getElem?, List.getElem?_toArray, List.getElem?_cons_succ, List.getElem?_cons_zero, Option.getD_some, Value.cells] at hS); obtain ⟨A1, c1, rfl, _, _⟩ := own_shp (hS.own 1 rfl)))
    exact ⟨_, ⟨_, _, by simp [ints]; rfl⟩, hS⟩
  case done =>
    rintro D W F' hD ⟨v, cs, rfl⟩ hS hK
    go_wp2_with (first | ((with_reducible show wpList _ _ _ (⟨_, .load _ _, _, _, _, _⟩ :: _) _ _); first | (refine st_cell hS 0 rfl _ _ rfl _ _ rfl _ _ rfl (by decide +kernel) _ (by first | assumption | rfl) ?_) | (refine st_cell hS 1 rfl _ _ rfl _ _ rfl _ _ rfl (by decide +kernel) _ (by first | assumption | rfl) ?_) | (refine st_cell hS 2 rfl _ _ rfl _ _ rfl _ _ rfl (by decide +kernel) _ (by first | assumption | rfl) ?_)))
    refine ⟨by simp, .inl ⟨_, _, rfl, run_takeDeferred hK, ?_⟩⟩
    have hw0 := hS.size
    replace hS := hS.turn (grownBy_putObj' W D (.deferred none)) (fun r e => by cases e; exact ⟨Nat.le_trans hsz3 hD, _, hK, rfl⟩) (fun f hf => by simp at hf; rcases hf with rfl | rfl | rfl <;> rfl)
    exact ⟨_, results_tmp rfl _ _ _, Ret.mk ⟨ws, hcn, rfl, Sl.of_own (hS.own 1 rfl)⟩ hS.below⟩
  case stop =>
    rintro D c pre W F' _ _ h _ _
    exact h.elim
end Go.Proofs.YtenpkgdnlogfiaaGreatDoor
