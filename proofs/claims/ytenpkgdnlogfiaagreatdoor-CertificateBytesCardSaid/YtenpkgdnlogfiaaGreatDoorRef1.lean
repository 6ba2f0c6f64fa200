/-
  The numbers of a mask (arbacref01.Members), and the sets and cubes that the laws make of masks.
-/
import Derived.Test.YtenpkgdnlogfiaaGreatDoorAcc
import Derived.Test.YtenpkgdnlogfiaaGreatDoorTyp
import Derived.Test.YtenpkgdnlogfiaaGreatDoorBits
namespace Go.Proofs.YtenpkgdnlogfiaaGreatDoor
open Go.RowKit
attribute [local go_sem ↓] Go.wp_at_zero Go.wp_at_succ
set_option maxRecDepth 20000

theorem ty_ints : SliceTy Tryz.prog 22 3 1 8 := ⟨Tryz.underlying22, by kernel_rfl⟩
/-- the numbers below k that are bits of N, ascending -/
def memTo (N k : Nat) : List Nat := (List.range k).filter fun i => N.testBit i
def members (N : Nat) : List Nat := memTo N 64
def natInts (l : List Nat) : List Int := l.map fun x : Nat => (x : Int)
theorem memTo_succ (N k : Nat) : memTo N (k + 1) = if N.testBit k then memTo N k ++ [k] else memTo N k := by
  unfold memTo
  rw [List.range_succ, List.filter_append]
  by_cases h : N.testBit k <;> simp [h]
theorem memTo_len (N k : Nat) : (memTo N k).length ≤ k := by
  have := List.length_filter_le (fun i => N.testBit i) (List.range k)
  simpa [memTo] using this

theorem bit_test (N k : Nat) : (((N : Int) / 2 ^ k).tmod 2 == 1) = N.testBit k := by
  have e : ((N : Int) / 2 ^ k) = ((N / 2 ^ k : Nat) : Int) := by simp
  rw [e, Int.tmod_eq_emod_of_nonneg (Int.natCast_nonneg _), Nat.testBit_eq_decide_div_mod_eq]
  by_cases h : N / 2 ^ k % 2 = 1
  · have : ((N / 2 ^ k : Nat) : Int) % 2 = 1 := by omega
    simp only [this, h]; rfl
  · have : ((N / 2 ^ k : Nat) : Int) % 2 = 0 := by omega
    simp only [this, h]; rfl
theorem members_any (N : Nat) (w : World) :
    Calls Tryz.prog 73 #[.int .u64 N] w (Ret (fun x w' => Sl w' (w.heap.size ≤ ·) 1 x (members N).length (ints (natInts (members N)))) w) := by
  go_enter Tryz.func73, Tryz.ntmps73
  go_wp2
  go_loopw [3, 4] (fun v i wr => ∃ k : Nat, k ≤ 64 ∧ i = .int .i64 k ∧ wr.ownsRow w.heap.size 3 1 v (memTo N k).length (ints (natInts (memTo N k))) ∧ Below w.heap.size w wr) (fun _ i _ => 64 - (intOf i).toNat)
  case atStart => exact ⟨0, by omega, rfl, World.ownsRow_nil _ _ _ _, Below.refl _ _⟩
  case round =>
    obtain ⟨k, hk, rfl, hown, hB⟩ := hrel
    by_cases hlt : k < 64
    · have hlen := memTo_len N k
      have hsz := hB.size
      have HO := Lib.hid hown
      have HS := Lib.hid (memTo_succ N k)
      have hq := bit_test N k
      clear hown
      cases hb : N.testBit k
      · rw [hb] at hq
        have HE := Lib.hid (HS.out.trans (if_neg (by simp [hb])))
        clear hb
        go_wp2_with fail
        refine ⟨⟨k + 1, hlt, by go_num, ?_, hB⟩, by simp [intOf]; omega⟩
        rw [HE.out]; exact HO.out
      · rw [hb] at hq
        have HE := Lib.hid (HS.out.trans (if_pos hb))
        clear hb
        go_wp2_with ((with_reducible show wpList _ _ _ (⟨some 16, _, _, _, _, _⟩ :: _) _ _); refine wpList_push_op rfl rfl _ _ _ _ rfl rfl ty_ints w.heap.size _ (memTo N k).length (ints (natInts (memTo N k))) (.int .i64 k) #[.int .i64 k] rfl (by kernel_rfl) rfl rfl rfl HO.out (by intro u hu; simp at hu; subst hu; rfl) (by omega) (by omega) hsz ?_; intro v' w1 ho hg _)
        refine ⟨⟨k + 1, hlt, by go_num, ?_, grown_below hg hB hsz (own_ge HO.out)⟩, by simp [intOf]; omega⟩
        rw [HE.out]; simpa [natInts, ints] using ho
    · obtain rfl : k = 64 := by omega
      have HO := Lib.hid hown
      clear hown
      go_wp2
      go_ret
      exact Ret.mk (by simpa [members, ints, natInts] using Sl.of_own HO.out) hB

theorem natInts_mem {N : Nat} {x : Int} : x ∈ natInts (members N) ↔ ∃ k : Nat, k < 64 ∧ N.testBit k = true ∧ x = k := by
  simp [natInts, members, memTo]
  constructor
  · rintro ⟨k, ⟨h1, h2⟩, h3⟩; exact ⟨k, h1, h2, h3.symm⟩
  · rintro ⟨k, h1, h2, h3⟩; exact ⟨k, ⟨h1, h2⟩, h3.symm⟩
theorem addM_foldl (l : List Int) : ∀ N i, (l.foldl addM N).testBit i = (N.testBit i || l.any fun x => decide (0 ≤ x ∧ x ≤ 4095) && decide (x.toNat = i)) := by
  induction l with
  | nil => simp
  | cons x r ih =>
    intro N i
    rw [List.foldl_cons, ih, List.any_cons]
    unfold addM
    by_cases h : 0 ≤ x ∧ x ≤ 4095
    · simp only [h, and_self, if_true, Nat.testBit_or, Nat.testBit_two_pow, decide_true, Bool.true_and, Bool.or_assoc]
    · simp [h]
theorem ofN_members {N : Nat} (hN : N < T64) : ofN (natInts (members N)) = N := by
  apply Nat.eq_of_testBit_eq
  intro i
  unfold ofN
  rw [addM_foldl, Nat.zero_testBit, Bool.false_or, Bool.eq_iff_iff, List.any_eq_true]
  constructor
  · rintro ⟨x, hx, h⟩
    obtain ⟨k, h1, h2, rfl⟩ := natInts_mem.1 hx
    simp at h
    rw [← h.2]; exact h2
  · intro h
    have hi : i < 64 := by
      rcases Nat.lt_or_ge i 64 with h' | h'
      · exact h'
      · rw [tb_big hN h'] at h; cases h
    exact ⟨(i : Int), natInts_mem.2 ⟨i, hi, h, rfl⟩, by simp; omega⟩

/-- the cell of a struct's result that is read at the end -/
theorem ret_cell {P : Program} {fn : Func} {p : Tmp} {ty : TypeId} {R : Ending → World → Prop} {a : Act} {w : World} {g : Nat} {t : TypeId} {cs : Array Value} {d : TypeDesc} (h : fn.results = #[.cell p ty]) (hp : a.eval (.tmp p) = .pointer (some ⟨g, 0, none⟩)) (hb : Box w g t cs)
    (hu : P.underlying ty = some d) (hd : (match d with | .struct _ | .array _ _ => true | _ => false) = true) (hi : (P.info? ty).map (·.size) = some cs.size) (hdf : a.defers = []) (hR : R (.returned (.agg cs)) w) : bodyPost P fn R .ret a w :=
  bodyPost_ret (results_cell_row h a.tmps w g t cs (0, 0) d hp hb hu hd hi) hdf hR

theorem lset_any (N : Nat) (hN : N < T64) (w : World) :
    Calls Tryz.prog 78 #[.int .u64 N] w (Ret (fun x w' => IsSet w' (w.heap.size ≤ ·) x N) w) := by
  go_enter Tryz.func78, Tryz.ntmps78
  go_wp2_with ((with_reducible show wpList _ _ _ (⟨some 2, _, _, _, _, _⟩ :: _) _ _); refine wpList_alloc_op rfl _ rfl (by kernel_rfl) ?_; intro w1 hA hB)
  refine (members_any N _).mono ?_
  rintro e w2 ⟨v2, rfl, h2, hb2⟩
  obtain ⟨A2, c2, rfl, _⟩ := h2.shape
  go_wp2_with fail
  refine (of_any _ (natInts (members N)) _ _ (by simpa [natInts] using h2)).mono ?_
  rintro e w3 ⟨v3, rfl, h3, hb3⟩
  obtain ⟨A3, c3, l3, rfl, _⟩ := id h3.parts
  rw [ofN_members hN] at h3
  have hA3 := (hA.ext hb2).ext hb3
  have hB3 := bel_tr (bel_tr hB hb2) hb3
  have hlA := hA.lt
  have hs2 := hb2.size
  go_wp2_with ((with_reducible show wpList _ _ _ (⟨none, _, _, _, _, _⟩ :: _) _ _); refine wpList_store_op rfl 51 _ _ rfl w.heap.size #[.slice A3 l3.length c3] rfl rfl _ _ hA3 (by kernel_rfl) (by kernel_rfl) (by kernel_rfl) ?_; intro w4 hX hU)
  exact ret_cell rfl rfl hX Tryz.underlying51 rfl (by kernel_rfl) rfl (Ret.mk ((h3.upd hU (fun b h hl => by omega)).imp fun b h _ => by have := hB.size; omega) (hU.below hB3 (Nat.le_refl _)))

/-- v is a cube (as the program has it), given by two masks -/
def IsCube (w : World) (D : Nat → Prop) (v : Value) (z : Nat × Nat) : Prop := ∃ a b, v = .agg #[a, b] ∧ IsSet w D (.agg #[a]) z.1 ∧ IsSet w D (.agg #[b]) z.2
theorem IsCube.keep {w w' : World} {D : Nat → Prop} {v : Value} {z : Nat × Nat} (h : IsCube w D v z) (hsz : w.heap.size ≤ w'.heap.size) (hk : ∀ p : Addr, D p.block → p.block < w.heap.size → w'.cell? p = w.cell? p) : IsCube w' D v z := by
  obtain ⟨a, b, h1, h2, h3⟩ := h
  exact ⟨a, b, h1, h2.keep hsz hk, h3.keep hsz hk⟩
theorem IsCube.ext {w w' : World} {D : Nat → Prop} {v : Value} {z : Nat × Nat} (h : IsCube w D v z) (hb : Below w.heap.size w w') : IsCube w' D v z := h.keep hb.size fun _ _ hp => hb.cell hp
theorem IsCube.imp {w : World} {D D' : Nat → Prop} {v : Value} {z : Nat × Nat} (h : IsCube w D v z) (hD : ∀ b, D b → b < w.heap.size → D' b) : IsCube w D' v z := by
  obtain ⟨a, b, h1, h2, h3⟩ := h
  exact ⟨a, b, h1, h2.imp hD, h3.imp hD⟩
theorem IsCube.upd {g : Nat} {w w' : World} {D : Nat → Prop} {v : Value} {z : Nat × Nat} (h : IsCube w D v z) (hU : Upd g w w') (hD : ∀ b, D b → b < w.heap.size → b ≠ g) : IsCube w' D v z :=
  h.keep (Nat.le_of_eq hU.size.symm) fun _ h1 h2 => hU.cell (hD _ h1 h2)

theorem lmake_any (y n : Nat) (hy : y < T64) (hn : n < T64) (w0 : World) :
    Calls Tryz.prog 47 #[.agg #[.int .u64 y, .int .u64 n]] w0 (Ret (fun x w' => IsCube w' (w0.heap.size ≤ ·) x (y, n)) w0) := by
  go_enter Tryz.func47, Tryz.ntmps47
  go_wp2_with fail
  have hX := (Box.new w0 60 #[.int .u64 y, .int .u64 n]).alloc (.cells #[.slice none 0 0, .slice none 0 0] 54)
  have hA := Box.new (w0.alloc (.cells #[.int .u64 y, .int .u64 n] 60)) 54 #[.slice none 0 0, .slice none 0 0]
  have hB := ((Below.refl w0.heap.size w0).alloc (Nat.le_refl _) (.cells #[.int .u64 y, .int .u64 n] 60)).alloc (by simp) (.cells #[.slice none 0 0, .slice none 0 0] 54)
  rw [World.size_alloc] at hA
  have hl2 := hA.lt
  generalize ((w0.alloc (.cells #[.int .u64 y, .int .u64 n] 60)).alloc (.cells #[.slice none 0 0, .slice none 0 0] 54)) = w2 at *
  refine wp_region_last (fun i v w => match i with
    | 0 => v = .pointer (some ⟨w0.heap.size, 0, none⟩)
    | 1 => v = .int .u64 y
    | 2 => IsSet w (w2.heap.size ≤ ·) v y
    | 3 => v = .pointer (some ⟨w0.heap.size, 1, none⟩)
    | 4 => v = .int .u64 n
    | 5 => IsSet w (w2.heap.size ≤ ·) v n
    | 6 => IsCube w (w2.heap.size ≤ ·) v (y, n)
    | _ => True) 7 _ (by kernel_rfl) rfl (by kernel_rfl) (by kernel_rfl) ?mono ⟨?r0, ?r1, ?r2, ?r3, ?r4, ?r5, ?r6, trivial⟩ ?post
  case mono =>
    intro i v w w' h hb
    match i, h with
    | 0, h => exact h
    | 1, h => exact h
    | 2, h => exact IsSet.ext h hb
    | 3, h => exact h
    | 4, h => exact h
    | 5, h => exact IsSet.ext h hb
    | 6, h => exact IsCube.ext h hb
    | _ + 7, h => trivial
  case r0 =>
    refine trule fun b w hW hold hpre => ⟨fun hwant K hK => ?_, fun hwant => ?_⟩
    · clear hwant
      have e1 : b.eval (.tmp 1) = .pointer (some ⟨w0.heap.size, 0, none⟩) := (hold 1 (by kernel_rfl)).trans rfl
      exact opw_faddr rfl e1 (by kernel_rfl) (hK _ _ rfl (Below.refl _ _))
    · rw [want_none rfl] at hwant; cases hwant
  case r1 =>
    refine trule fun b w hW hold hpre => ⟨fun hwant K hK => ?_, fun hwant => ?_⟩
    · clear hwant
      have e3 : b.eval (.tmp 3) = .pointer (some ⟨w0.heap.size, 0, none⟩) := hpre ⟨0, _⟩ (Array.mem_of_getElem? (i := 0) rfl) rfl _ _ rfl rfl
      exact opw_cell rfl e3 (by kernel_rfl) (((hX.ext (undrew hW)).cell 0).trans rfl) (hK _ _ rfl (Below.refl _ _))
    · rw [want_none rfl] at hwant; cases hwant
  case r2 =>
    refine trule fun b w hW hold hpre => ⟨fun hwant K hK => ?_, fun hwant => ?_⟩
    · clear hwant
      have e4 : b.eval (.tmp 4) = .int .u64 y := hpre ⟨1, _⟩ (Array.mem_of_getElem? (i := 0) rfl) rfl _ _ rfl rfl
      exact opw_call rfl (by kernel_rfl) (by simp [e4]) (lset_any y hy w) fun v w' h hb => hK v w' (h.imp fun b h1 _ => by have := (undrew hW).size; omega) hb
    · rw [want_none rfl] at hwant; cases hwant
  case r3 =>
    refine trule fun b w hW hold hpre => ⟨fun hwant K hK => ?_, fun hwant => ?_⟩
    · clear hwant
      have e1 : b.eval (.tmp 1) = .pointer (some ⟨w0.heap.size, 0, none⟩) := (hold 1 (by kernel_rfl)).trans rfl
      exact opw_faddr rfl e1 (by kernel_rfl) (hK _ _ rfl (Below.refl _ _))
    · rw [want_none rfl] at hwant; cases hwant
  case r4 =>
    refine trule fun b w hW hold hpre => ⟨fun hwant K hK => ?_, fun hwant => ?_⟩
    · clear hwant
      have e6 : b.eval (.tmp 6) = .pointer (some ⟨w0.heap.size, 1, none⟩) := hpre ⟨3, _⟩ (Array.mem_of_getElem? (i := 0) rfl) rfl _ _ rfl rfl
      exact opw_cell rfl e6 (by kernel_rfl) (((hX.ext (undrew hW)).cell 1).trans rfl) (hK _ _ rfl (Below.refl _ _))
    · rw [want_none rfl] at hwant; cases hwant
  case r5 =>
    refine trule fun b w hW hold hpre => ⟨fun hwant K hK => ?_, fun hwant => ?_⟩
    · clear hwant
      have e7 : b.eval (.tmp 7) = .int .u64 n := hpre ⟨4, _⟩ (Array.mem_of_getElem? (i := 0) rfl) rfl _ _ rfl rfl
      exact opw_call rfl (by kernel_rfl) (by simp [e7]) (lset_any n hn w) fun v w' h hb => hK v w' (h.imp fun b h1 _ => by have := (undrew hW).size; omega) hb
    · rw [want_none rfl] at hwant; cases hwant
  case r6 =>
    refine trule fun b w hW hold hpre => ⟨fun hwant K hK => ?_, fun hwant => ?_⟩
    · clear hwant
      have e5 : (fun (v : Value) (w : World) => IsSet w (w2.heap.size ≤ ·) v y) (b.eval (.tmp 5)) w := hpre ⟨2, _⟩ (Array.mem_of_getElem? (i := 0) rfl) rfl _ _ rfl rfl
      have e8 : (fun (v : Value) (w : World) => IsSet w (w2.heap.size ≤ ·) v n) (b.eval (.tmp 8)) w := hpre ⟨5, _⟩ (Array.mem_of_getElem? (i := 1) rfl) rfl _ _ rfl rfl
      obtain ⟨A, c, l, h1, _⟩ := id e5.parts
      obtain ⟨A', c', l', h2, _⟩ := id e8.parts
      exact opw_built rfl (ps := [(0, .agg #[.slice A l.length c]), (1, .agg #[.slice A' l'.length c'])]) (by simp [h1, h2]) (cells := #[.slice A l.length c, .slice A' l'.length c']) (by kernel_rfl) (hK _ _ ⟨_, _, rfl, h1 ▸ e5, h2 ▸ e8⟩ (Below.refl _ _))
    · rw [want_none rfl] at hwant; cases hwant
  case post =>
    intro b wz hW hdf hsz hold hT
    have e2 : b.eval (.tmp 2) = .pointer (some ⟨w0.heap.size + 1, 0, none⟩) := (hold 2 (by kernel_rfl)).trans rfl
    have e9 : (fun (v : Value) (w : World) => IsCube w (w2.heap.size ≤ ·) v (y, n)) (b.eval (.tmp 9)) wz := hT 6 _ 9 (by decide) rfl rfl
    obtain ⟨x1, x2, h1, h2, h3⟩ := e9
    obtain ⟨A, m, c, rfl⟩ := h2.shape
    obtain ⟨A', m', c', rfl⟩ := h3.shape
    refine opw_store rfl e2 h1 (hA.ext hW) (by kernel_rfl) (by kernel_rfl) (by kernel_rfl) fun w4 hX4 hU => ?_
    go_wp2_with fail
    exact ret_cell rfl e2 hX4 Tryz.underlying54 rfl (by kernel_rfl) hdf (Ret.mk ⟨_, _, rfl, (h2.upd hU (fun b h hl => by omega)).imp fun b h _ => by have := hB.size; omega, (h3.upd hU (fun b h hl => by omega)).imp fun b h _ => by have := hB.size; omega⟩ (hU.below (bel_tr hB hW) (by have := hB.size; omega)))
end Go.Proofs.YtenpkgdnlogfiaaGreatDoor
