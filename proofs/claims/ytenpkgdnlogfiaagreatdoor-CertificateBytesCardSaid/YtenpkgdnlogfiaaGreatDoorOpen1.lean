/-
  From how an argument reads to what the walks ask of it: slices, raw certificates; the laid tables.
-/
import Derived.Test.YtenpkgdnlogfiaaGreatDoorRef4
import Derived.Test.YtenpkgdnlogfiaaGreatDoorRows
import Derived.ProofKit
import Derived.OpenShut
import Derived.Lib.LaidU8
namespace Go.Proofs.YtenpkgdnlogfiaaGreatDoor
open Go.RowKit Go.ChangeShapes Go.WideShapes

section
variable {H : Type} {enc : TypeId × Value → H} {P : Program} {w : World} {base : Nat} {sp : Nat → Bool} {held : Bool}
/-- A SLICE THAT READS AS DATA: its cells, element by element. -/
theorem sl_of_trod {t e : TypeId} {size fuel : Nat} {cs : List Value} {x : DataW H × List MemPlace} (ht : P.underlying t = some (.slice e)) (hc : P.cellsOf e = size) (hsz : 0 < size) (h : DataW.trod enc P w base sp held fuel t cs = some x) :
    ∃ v n xs, cs = [v] ∧ Sl w (fun _ => True) size v n xs ∧ ∀ k, k < n → ∃ f' y, DataW.trod enc P w base sp held f' e ((xs.drop (k * size)).take size) = some y := by
  rcases DataW.trod_slice ht h with ⟨rfl, _⟩ | ⟨a, len, cap, elems, rest, n, _, rfl, _, hb, hl, hm, hlen, hel, _⟩
  · exact ⟨_, 0, [], rfl, ⟨by simp, none, 0, rfl, Nat.le_refl _, Nat.zero_le _, fun h => by omega⟩, fun k hk => by omega⟩
  · rw [hc] at hel
    have each : ∀ k, k < len → ∃ ck y, w.cells? base (a.add (k * size)) size = some ck ∧ DataW.trod enc P w base sp held n e ck = some y := by
      intro k hk
      have h1 := hel k hk
      rw [List.getElem?_eq_getElem (by omega)] at h1
      obtain ⟨ck, h2, h3⟩ := Option.bind_eq_some_iff.1 h1
      exact ⟨ck, _, h2, h3⟩
    have hadd : ∀ i j, (a.add i).add j = a.add (i + j) := by
      intro i j
      unfold Addr.add
      by_cases h1 : i = 0 <;> by_cases h2 : j = 0 <;> simp [h1, h2, Nat.add_assoc]
    have cell : ∀ j, j < len * size → ∃ x, w.cell? (a.add j) = some x := by
      intro j hj
      have hk : j / size < len := (Nat.div_lt_iff_lt_mul hsz).2 hj
      obtain ⟨ck, y, h1, h2⟩ := each _ hk
      obtain ⟨_, h3, h4⟩ := World.cells?_some h1
      have h5 := h4 (j % size) (Nat.mod_lt _ hsz)
      rw [hadd, Nat.mul_comm, Nat.div_add_mod] at h5
      rw [h5, List.getElem?_eq_getElem (by rw [h3]; exact Nat.mod_lt _ hsz)]
      exact ⟨_, rfl⟩
    refine ⟨.slice (some a) len cap, len, (List.range (len * size)).map fun j => (w.cell? (a.add j)).getD undef, rfl, ⟨by simp, some a, cap, rfl, hl, hm, fun h0 => ?_⟩, fun k hk => ?_⟩
    · obtain ⟨x0, hx0⟩ := cell 0 (Nat.mul_pos h0 hsz)
      obtain ⟨b, o, s⟩ := a
      have hs : s = none := cell_spot hx0
      subst hs
      refine ⟨b, o, rfl, trivial, ?_, fun j x hx => ?_⟩
      · have := hx0
        unfold World.cell? at this
        simp only [Addr.add] at this
        rcases Nat.lt_or_ge b w.heap.size with hlt | hge
        · exact hlt
        · simp [Array.getElem?_eq_none hge] at this
      · simp only [List.getElem?_map, Option.map_eq_some_iff] at hx
        obtain ⟨j', hj', rfl⟩ := hx
        have hjl := (List.getElem?_eq_some_iff.1 hj').1
        rw [List.getElem?_range (by simpa using hjl)] at hj'
        obtain rfl := Option.some.inj hj'
        obtain ⟨y, hy⟩ := cell j (by simpa using hjl)
        rw [hy]
        have e : (⟨b, o, none⟩ : Addr).add j = ⟨b, o + j, none⟩ := by
          unfold Addr.add; split <;> simp [*]
        rw [e] at hy
        exact hy
    · obtain ⟨ck, y, h1, h2⟩ := each k hk
      obtain ⟨_, h3, h4⟩ := World.cells?_some h1
      refine ⟨n, y, ?_⟩
      rw [← h2]
      congr 1
      have hle : k * size + size ≤ len * size := by
        rw [← Nat.succ_mul]; exact Nat.mul_le_mul_right _ hk
      apply List.ext_getElem?
      intro i
      rcases Nat.lt_or_ge i size with hi | hi
      · rw [List.getElem?_take_of_lt hi, List.getElem?_drop, List.getElem?_map, List.getElem?_range (by omega)]
        have h5 := h4 i hi
        rw [hadd] at h5
        simp only [Option.map_some]
        rw [h5, List.getElem?_eq_getElem (by omega)]
        simp
      · rw [List.getElem?_eq_none (by simp; omega), List.getElem?_eq_none (by omega)]
theorem list1 {α : Type} {l : List α} {size k n : Nat} (hl : l.length = n * size) (hk : k < n) : (l.drop (k * size)).length ≥ size := by
  have hle : k * size + size ≤ n * size := by rw [← Nat.succ_mul]; exact Nat.mul_le_mul_right _ hk
  simp; omega
end
/-- a []int -/
theorem sl_ints {H : Type} {enc : TypeId × Value → H} {w : World} {base : Nat} {sp : Nat → Bool} {held : Bool} {fuel : Nat} {cs : List Value} {x : DataW H × List MemPlace} (h : DataW.trod enc Tryz.prog w base sp held fuel 22 cs = some x) :
    ∃ v zs, cs = [v] ∧ Sl w (fun _ => True) 1 v zs.length (ints zs) := by
  obtain ⟨v, n, xs, rfl, hs, he⟩ := sl_of_trod Tryz.underlying22 (size := 1) (by kernel_rfl) (by decide) h
  have hl := hs.1
  have : ∃ zs : List Int, xs = ints zs := by
    have : ∀ v ∈ xs, ∃ z : Int, v = .int .i64 z := by
      intro v hv
      obtain ⟨k, hk, hkv⟩ := List.mem_iff_getElem.1 hv
      obtain ⟨f', y, hy⟩ := he k (by omega)
      obtain ⟨z, hz, _⟩ := DataW.trod_int Tryz.underlying3 hy
      have h0 := congrArg (·[0]?) hz
      simp only [Nat.mul_one, List.getElem?_take_of_lt Nat.zero_lt_one, List.getElem?_drop, Nat.add_zero] at h0
      rw [List.getElem?_eq_getElem hk, hkv] at h0
      exact ⟨z, by simpa using h0⟩
    clear hs he hl h
    induction xs with
    | nil => exact ⟨[], rfl⟩
    | cons a r ih =>
      obtain ⟨zs, rfl⟩ := ih fun v hv => this v (List.mem_cons_of_mem _ hv)
      obtain ⟨z, rfl⟩ := this a List.mem_cons_self
      exact ⟨z :: zs, rfl⟩
  obtain ⟨zs, rfl⟩ := this
  have hz : zs.length = n := by simpa [ints] using hl
  exact ⟨v, zs, rfl, hz ▸ hs⟩
theorem list3 {α : Type} {l : List α} (h : l.length = 3) : ∃ a b c, l = [a, b, c] := by
  match l, h with
  | [a, b, c], _ => exact ⟨a, b, c, rfl⟩
theorem list5 {α : Type} {l : List α} (h : l.length = 5) : ∃ a b c d e, l = [a, b, c, d, e] := by
  match l, h with
  | [a, b, c, d, e], _ => exact ⟨a, b, c, d, e, rfl⟩
theorem list3r {α : Type} {l : List α} {n : Nat} (h : l.length = (n + 1) * 3) : ∃ a b c r, l = a :: b :: c :: r := by
  match l, h with
  | [], h => simp at h
  | [_], h => simp at h; omega
  | [_, _], h => simp at h; omega
  | a :: b :: c :: r, _ => exact ⟨a, b, c, r, rfl⟩
theorem u8_nat {n : Int} (h : (Lit.int .u8 n).wf = true) : ∃ m : Nat, n = (m : Int) ∧ m < 256 := by
  have := bounds_u8 h
  exact ⟨n.toNat, by omega, by omega⟩
/-- a slice of raw cubes -/
theorem sl_raws {H : Type} {enc : TypeId × Value → H} {w : World} {base : Nat} {sp : Nat → Bool} {held : Bool} {fuel : Nat} {cs : List Value} {x : DataW H × List MemPlace} (h : DataW.trod enc Tryz.prog w base sp held fuel 23 cs = some x) :
    ∃ v zs, cs = [v] ∧ Sl w (fun _ => True) 3 v (List.length zs) (rawCells zs) ∧ ∀ c ∈ zs, RawC.ok c := by
  obtain ⟨v, n, xs, rfl, hs, he⟩ := sl_of_trod Tryz.underlying23 (size := 3) (by kernel_rfl) (by decide) h
  have hl := hs.1
  have : ∃ zs : List RawC, xs = rawCells zs ∧ zs.length = n ∧ ∀ c ∈ zs, c.ok := by
    clear hs h
    induction n generalizing xs with
    | zero => exact ⟨[], List.length_eq_zero_iff.1 (by simpa using hl), rfl, by simp⟩
    | succ n ih =>
      obtain ⟨f', y, hy⟩ := he 0 (by omega)
      simp only [Nat.zero_mul, List.drop_zero] at hy
      obtain ⟨zs, hz, hn, hok⟩ := ih (xs.drop 3) (fun k hk => by
        obtain ⟨f', y, h⟩ := he (k + 1) (by omega)
        refine ⟨f', y, ?_⟩
        rw [List.drop_drop]
        rw [show 3 + k * 3 = (k + 1) * 3 by omega]
        exact h) (by simp; omega)
      obtain ⟨ys, m, rfl, _, _, hyl, hf⟩ := DataW.trod_struct Tryz.underlying57 hy
      obtain ⟨y0, y1, y2, rfl⟩ := list3 (show ys.length = 3 from hyl)
      obtain ⟨a, b, c, r, rfl⟩ := list3r hl
      · clear hyl
        have g0 : DataW.trod enc Tryz.prog w base sp held m 5 (((a :: b :: c :: r).take 3).drop 0 |>.take (Tryz.prog.cellsOf 5)) = some y0 := hf 0 _ rfl
        have g1 : DataW.trod enc Tryz.prog w base sp held m 5 (((a :: b :: c :: r).take 3).drop 1 |>.take (Tryz.prog.cellsOf 5)) = some y1 := hf 1 _ rfl
        have g2 : DataW.trod enc Tryz.prog w base sp held m 4 (((a :: b :: c :: r).take 3).drop 2 |>.take (Tryz.prog.cellsOf 4)) = some y2 := hf 2 _ rfl
        have c1 : Tryz.prog.cellsOf 5 = 1 := by kernel_rfl
        have c2 : Tryz.prog.cellsOf 4 = 1 := by kernel_rfl
        rw [c1] at g0 g1
        rw [c2] at g2
        obtain ⟨n0, e0, _, w0⟩ := DataW.trod_int Tryz.underlying5 (x := y0) (by simpa using g0)
        obtain ⟨n1, e1, _, w1⟩ := DataW.trod_int Tryz.underlying5 (x := y1) (by simpa using g1)
        obtain ⟨n2, e2, _⟩ := DataW.trod_bool Tryz.underlying4 (x := y2) (by simpa using g2)
        obtain ⟨m0, rfl, l0⟩ := u8_nat w0
        obtain ⟨m1, rfl, l1⟩ := u8_nat w1
        simp at e0 e1 e2
        subst e0 e1 e2
        refine ⟨⟨m0, m1, n2⟩ :: zs, ?_, by simp [hn], fun c hc => ?_⟩
        · show _ = _ :: _ :: _ :: rawCells zs
          rw [← hz]; rfl
        · rcases List.mem_cons.1 hc with rfl | hc
          · exact ⟨l0, l1⟩
          · exact hok c hc
  obtain ⟨zs, rfl, rfl, hok⟩ := this
  exact ⟨v, zs, rfl, hs, hok⟩
set_option maxRecDepth 20000 in
/-- a raw certificate by value -/
theorem raw_open {H : Type} {enc : TypeId × Value → H} {W : World} {r : Reach} {b0 base : Nat} {sp : Nat → Bool} {held : Bool} {v : Value} {d : DataW H} {p : List MemPlace} (hv : Value.okWide Tryz.prog W r b0 25 v) (h : DataW.Trod enc Tryz.prog W base sp held 25 v d p) :
    ∃ x : RawCert, x.ok ∧ IsRaw W (fun _ => True) v x := by
  obtain ⟨cs, rfl, hsz⟩ := okWide_struct Tryz.underlying25 hv
  have hc5 : Tryz.prog.cellsOf 25 = 5 := by kernel_rfl
  rw [hc5] at hsz
  obtain ⟨fuel, hf0⟩ := h
  obtain ⟨ys, m, _, _, _, hyl, hf⟩ := DataW.trod_struct Tryz.underlying25 hf0
  obtain ⟨cs⟩ := cs
  obtain ⟨y0, y1, y2, y3, y4, rfl⟩ := list5 (show ys.length = 5 from hyl)
  obtain ⟨a, b, c, e, f, rfl⟩ := list5 (show cs.length = 5 from hsz)
  · clear hyl hsz
    have g0 : DataW.trod enc Tryz.prog W base sp held m 5 (([a, b, c, e, f]).drop 0 |>.take (Tryz.prog.cellsOf 5)) = some y0 := hf 0 _ rfl
    have g1 : DataW.trod enc Tryz.prog W base sp held m 5 (([a, b, c, e, f]).drop 1 |>.take (Tryz.prog.cellsOf 5)) = some y1 := hf 1 _ rfl
    have g2 : DataW.trod enc Tryz.prog W base sp held m 4 (([a, b, c, e, f]).drop 2 |>.take (Tryz.prog.cellsOf 4)) = some y2 := hf 2 _ rfl
    have g3 : DataW.trod enc Tryz.prog W base sp held m 22 (([a, b, c, e, f]).drop 3 |>.take (Tryz.prog.cellsOf 22)) = some y3 := hf 3 _ rfl
    have g4 : DataW.trod enc Tryz.prog W base sp held m 23 (([a, b, c, e, f]).drop 4 |>.take (Tryz.prog.cellsOf 23)) = some y4 := hf 4 _ rfl
    have c1 : Tryz.prog.cellsOf 5 = 1 := by kernel_rfl
    have c2 : Tryz.prog.cellsOf 4 = 1 := by kernel_rfl
    have c3 : Tryz.prog.cellsOf 22 = 1 := by kernel_rfl
    have c4 : Tryz.prog.cellsOf 23 = 1 := by kernel_rfl
    rw [c1] at g0 g1
    rw [c2] at g2
    rw [c3] at g3
    rw [c4] at g4
    obtain ⟨n0, e0, _, w0⟩ := DataW.trod_int Tryz.underlying5 (x := y0) (by simpa [Value.cells] using g0)
    obtain ⟨n1, e1, _, w1⟩ := DataW.trod_int Tryz.underlying5 (x := y1) (by simpa [Value.cells] using g1)
    obtain ⟨n2, e2, _⟩ := DataW.trod_bool Tryz.underlying4 (x := y2) (by simpa [Value.cells] using g2)
    obtain ⟨pv, zs, e3, hp⟩ := sl_ints (x := y3) (by simpa [Value.cells] using g3)
    obtain ⟨qv, qs, e4, hq, hok⟩ := sl_raws (x := y4) (by simpa [Value.cells] using g4)
    obtain ⟨m0, rfl, l0⟩ := u8_nat w0
    obtain ⟨m1, rfl, l1⟩ := u8_nat w1
    simp at e0 e1 e2 e3 e4
    subst e0 e1 e2 e3 e4
    exact ⟨⟨m0, m1, n2, zs, qs⟩, ⟨l0, l1, hok⟩, _, _, rfl, hp, hq⟩
end Go.Proofs.YtenpkgdnlogfiaaGreatDoor
