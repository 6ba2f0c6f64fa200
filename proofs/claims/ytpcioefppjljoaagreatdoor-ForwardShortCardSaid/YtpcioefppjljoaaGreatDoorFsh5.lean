/-
  The card of ForwardShort.
-/
import Derived.Test.YtpcioefppjljoaaGreatDoorRows
import Derived.ProofKit
import Derived.OpenShut
import Derived.Lib.LaidU8
import Derived.Lay
import Derived.MakeChecks
import Derived.LaidLaws
import Derived.Stop.Joined
import Derived.Test.YtpcioefppjljoaaGreatDoorCards
import Derived.Test.YtpcioefppjljoaaGreatDoorTie
import Derived.SevenTiedAt
import Derived.Test.YtpcioefppjljoaaGreatDoorFsh4
namespace Go.Proofs.YtpcioefppjljoaaGreatDoor
section
open Go.RowKit
set_option exponentiation.threshold 5000
theorem DH (a b : Nat) : (a < b /\ CL a b = -1) \/ (a = b /\ CL a b = 0) \/ (b < a /\ CL a b = 1) := by
 unfold CL
 rcases Nat.lt_trichotomy a b with h | h | h
 ·exact .inl ⟨h, if_pos h⟩
 ·exact .inr (.inl ⟨h, by rw [if_neg (by omega), if_neg (by omega)]⟩)
 ·exact .inr (.inr ⟨h, by rw [if_neg (by omega), if_pos h]⟩)
theorem cmpL_refl : ∀ l : List Nat, Bn l l = 0
 | [] => rfl
 | x :: l => by rw [Bn, if_pos (by simp [CL])]; exact cmpL_refl l
theorem cmpL_eq : ∀ {a b : List Nat}, Bn a b = 0 -> a = b
 | [], [], _ => rfl
 | [], _ :: _, h => by simp [Bn] at h
 | _ :: _, [], h => by simp [Bn] at h
 | x :: a, y :: b, h => by
  rw [Bn] at h
  rcases DH x y with ⟨h1, h2⟩ | ⟨rfl, h2⟩ | ⟨h1, h2⟩
  ·rw [h2] at h; simp at h
  ·rw [if_pos h2] at h; rw [cmpL_eq h]
  ·rw [h2] at h; simp at h
theorem Il : ∀ a b : List Nat, Bn a b = -1 \/ Bn a b = 0 \/ Bn a b = 1
 | [], [] => .inr (.inl rfl)
 | [], _ :: _ => .inl rfl
 | _ :: _, [] => .inr (.inr rfl)
 | x :: a, y :: b => by
  rw [Bn]
  rcases DH x y with ⟨_, h2⟩ | ⟨rfl, h2⟩ | ⟨_, h2⟩
  ·rw [h2, if_neg (by decide)]; exact .inl rfl
  ·rw [if_pos h2]; exact Il a b
  ·rw [h2, if_neg (by decide)]; exact .inr (.inr rfl)
theorem Im : ∀ {a b c : List Nat}, Bn a b = -1 -> Bn b c = -1 -> Bn a c = -1
 | [], _, [], h, k => by
  rename_i b
  cases b with
  | nil => simp [Bn] at h
  | cons y b => simp [Bn] at k
 | [], _, _ :: _, _, _ => rfl
 | _ :: _, [], _, h, _ => by simp [Bn] at h
 | _ :: _, _ :: _, [], _, k => by simp [Bn] at k
 | x :: a, y :: b, z :: c, h, k => by
  rw [Bn] at h k ⊢
  rcases DH x y with ⟨a1, a2⟩ | ⟨rfl, a2⟩ | ⟨a1, a2⟩
  ·rcases DH y z with ⟨b1, b2⟩ | ⟨rfl, b2⟩ | ⟨b1, b2⟩
   ·have : CL x z = -1 := by unfold CL; rw [if_pos (by omega)]
    rw [this]; rfl
   ·rw [a2]; rfl
   ·rw [b2] at k; simp at k
  ·rw [if_pos a2] at h
   rcases DH x z with ⟨b1, b2⟩ | ⟨rfl, b2⟩ | ⟨b1, b2⟩
   ·rw [b2]; rfl
   ·rw [if_pos b2] at k ⊢; exact Im h k
   ·rw [b2] at k; simp at k
  ·rw [a2] at h; simp at h
theorem Fe {a b c : List Nat} (h : Bn a b = -1) (k : Bn b c ≠ 1) : Bn a c = -1 := by
 rcases Il b c with h1 | h1 | h1
 ·exact Im h h1
 ·rw [<- cmpL_eq h1]; exact h
 ·exact absurd h1 k
def MinR (p : Ac) (l : List CO) (b a I K : Nat) : Prop :=
 (∀ (i k s : Nat), a <= i -> i < b -> (i < I \/ i = I /\ k < K) -> k < p.rules.length -> stepM p (l.getD i AK).1 (k : Nat) = some s -> s ∈ l.map (·.1)) /\
 (∀ j z, b <= j -> l[j]? = some z -> ∀ i k : Nat, a <= i -> i < b -> ((i : Int) < z.2.1 \/ (i : Int) = z.2.1 /\ (k : Int) < z.2.2) -> k < p.rules.length -> stepM p (l.getD i AK).1 (k : Nat) ≠ some z.1)
section
variable {p : Ac} {l : List CO}
theorem min_addR {b a I K : Nat} (hb : b <= l.length) (h : MinR p l b a I K) (hI : I < b) : MinR p (addR p l I K) b a I (K + 1) := by
 have hpre := Iu p l I K
 obtain ⟨h1, h2⟩ := h
 constructor
 ·intro i k s ha hib hc hk hs
  rw [ED hpre (by omega)] at hs
  rw [mem_addR]
  rcases (by omega : (i < I \/ i = I /\ k < K) \/ (i = I /\ k = K)) with h | ⟨rfl, rfl⟩
  ·exact .inl (h1 i k s ha hib h hk hs)
  ·exact .inr hs
 ·intro j z hj hz i k ha hib hc hk
  rw [ED hpre (by omega)]
  rcases CB p l I K with ⟨e, _⟩ | ⟨t, _, hn, e⟩
  ·rw [e] at hz; exact h2 j z hj hz i k ha hib hc hk
  ·rw [e] at hz
   rcases Nat.lt_or_ge j l.length with h3 | h3
   ·rw [List.getElem?_append_left h3] at hz
    exact h2 j z hj hz i k ha hib hc hk
   ·have h4 := (List.getElem?_eq_some_iff.1 hz).1
    rw [List.length_append, List.length_singleton] at h4
    obtain rfl : j = l.length := by omega
    rw [List.getElem?_append_right (Nat.le_refl _), Nat.sub_self] at hz
    obtain rfl := Option.some.inj hz
    dsimp only at hc ⊢
    exact fun hs => hn (h1 i k t ha hib (by omega) hk hs)
theorem min_rowR {b a I : Nat} (hb : b <= l.length) (h : MinR p l b a I 0) (hI : I < b) : ∀ m, MinR p (rowR p l I m) b a I m
 | 0 => h
 | m + 1 => by
  rw [Cn]
  exact min_addR (by have := (D7 p l I m).length_le; omega) (min_rowR hb h hI m) hI
theorem min_lvlR {a : Nat} : ∀ n, a + n <= l.length -> MinR p (lvlR p l a n) l.length a (a + n) 0
 | 0, _ => ⟨fun i k s ha _ hc _ _ => by omega, fun j z hj hz => by have := (List.getElem?_eq_some_iff.1 hz).1; change j < l.length at this; omega⟩
 | n + 1, hn => by
  rw [Cq]
  obtain ⟨h1, h2⟩ := min_rowR (p := p) (by have := (Db p l a n).length_le; omega) (min_lvlR n (by omega)) (by omega) p.rules.length
  exact ⟨fun i k s ha hib hc hk hs => h1 i k s ha hib (by omega) hk hs, h2⟩
end
theorem Hl (p : Ac) : ∀ (d : Nat) (pl : List Nat) (s j : Nat), pl.length = d -> (∃ m, runTo p p.start 0 (Ce pl) = (s, m, true)) -> (srchN p d).2 <= j -> j < (srchN p d).1.length -> ((srchN p d).1.getD j AK).1 = s -> Bn (B0 (srchN p d).1 j) pl ≠ 1
 | 0, pl, s, j, hl, _, _, hj, _ => by
  obtain rfl := List.length_eq_zero_iff.1 hl
  have : (B0 (srchN p 0).1 j).length = 0 := (BC p 0).len j (Nat.zero_le _) hj
  rw [List.length_eq_zero_iff.1 this]; decide
 | d + 1, pl, s, j, hl, ⟨m, hr⟩, ha, hj, hs => by
  obtain ⟨r, k, rfl⟩ : ∃ r k, pl = r ++ [k] := ⟨pl.dropLast, pl.getLast (by intro e; simp [e] at hl), (List.dropLast_concat_getLast _).symm⟩
  have hrl : r.length = d := by simpa using hl
  have hr' : runTo p p.start 0 (Ce r ++ [(k : Int)]) = (s, m, true) := by simpa [Ce] using hr
  obtain ⟨s', m', h1, h2⟩ := DM hr'
  have hv := BC p d
  have hv1 := BC p (d + 1)
  have hat : AtD p d s' := ⟨_, by simp [Ce, hrl], m', h1⟩
  obtain ⟨i', hi', hs'⟩ := Gp ((hv.mem s').2 ⟨d, Nat.le_refl _, hat⟩)
  have hnear : ∀ e, e < d + 1 -> ¬ Cw p e s := fun e he hn => by
   have := (hv1.old s).2 ⟨e, he, hn⟩
   obtain ⟨z, hz, hzs⟩ := List.mem_map.1 this
   obtain ⟨q, hq⟩ := List.mem_iff_getElem?.1 hz
   rw [List.getElem?_take] at hq
   split at hq
   ·rename_i hql
    have nd := hv1.wf.nodup
    have e1 : ((srchN p (d + 1)).1.map (·.1))[q]? = some s := by rw [List.getElem?_map, hq]; exact congrArg some hzs
    have e2 : ((srchN p (d + 1)).1.map (·.1))[j]? = some s := by rw [List.getElem?_map, Dc hj]; exact congrArg some hs
    have := (List.getElem?_inj (List.getElem?_eq_some_iff.1 e1).1 nd).1 (e1.trans e2.symm)
    omega
   ·cases hq
  have hai : (srchN p d).2 <= i' := Nat.le_of_not_lt fun h => by
   obtain ⟨e, he, hn⟩ := (hv.old s').1 (List.mem_map.2 ⟨(srchN p d).1.getD i' AK, List.mem_of_getElem? (i := i') (by rw [List.getElem?_take, if_pos h]; exact Dc hi'), hs'⟩)
   obtain ⟨n, hn1, hn2⟩ := hn
   exact hnear (e + 1) (by omega) ⟨n + 1, by omega, FW hn2 h2⟩
  have ih := Hl p d r s' i' hrl ⟨m', h1⟩ hai hi' hs'
  obtain ⟨k', hk', hkr⟩ := Gt h2
  obtain rfl : k = k' := by omega
  obtain ⟨_, hmin⟩ := min_lvlR (p := p) (l := (srchN p d).1) (a := (srchN p d).2) ((srchN p d).1.length - (srchN p d).2) (by have := hv.le; omega)
  have hja : (srchN p d).1.length <= j := ha
  obtain ⟨i0, k0, y, q1, q2, q3, q4, q5, q6⟩ := hv1.wf.link j _ (Dc hj) (by have := hv.wf.pos; omega)
  have hmm := hmin j _ hja (Dc hj) i' k hai hi'
  have hbnd := (Ir (p := p) (l := (srchN p d).1) (a := (srchN p d).2) ((srchN p d).1.length - (srchN p d).2)).2 j _ hja (Dc hj)
  have hpre := Eg p d
  have hle := hv.le
  change (srchN p d).1 <+: lvlR p (srchN p d).1 (srchN p d).2 ((srchN p d).1.length - (srchN p d).2) at hpre
  change ((lvlR p (srchN p d).1 (srchN p d).2 ((srchN p d).1.length - (srchN p d).2)).getD j AK).2.1 = _ at q1
  change ((lvlR p (srchN p d).1 (srchN p d).2 ((srchN p d).1.length - (srchN p d).2)).getD j AK).2.2 = _ at q2
  have hi0 : (srchN p d).2 <= i0 /\ i0 < (srchN p d).1.length := by rw [q1] at hbnd; omega
  have hlex : ¬ (((i' : Nat) : Int) < (i0 : Int) \/ ((i' : Nat) : Int) = (i0 : Int) /\ (k : Int) < (k0 : Int)) := fun hc => by
   refine hmm (by rw [q1, q2]; exact hc) hkr ?_
   rw [ED hpre hi', hs', h2]
   exact congrArg some hs.symm
  have hpl : B0 (srchN p (d + 1)).1 j = B0 (srchN p d).1 i0 ++ [k0] := by
   rw [D9 hv1.wf hj q1 q2]
   exact congrArg (· ++ [k0]) (planR_pre hpre hv.wf hi0.2)
  rw [hpl]
  have l0 := hv.len i0 hi0.1 hi0.2
  rcases Nat.lt_trichotomy i0 i' with h5 | h5 | h5
  ·have := Fe (hv.asc i0 i' hi0.1 h5 hi') ih
   rw [CM (by rw [l0, hrl]) this]; decide
  ·subst h5
   rcases Il (B0 (srchN p d).1 i0) r with h6 | h6 | h6
   ·rw [CM (by rw [l0, hrl]) h6]; decide
   ·rw [cmpL_eq h6, CF, Bn]
    rcases DH k0 k with ⟨_, h8⟩ | ⟨_, h8⟩ | ⟨h7, _⟩
    ·rw [h8]; decide
    ·rw [if_pos h8]; decide
    ·omega
   ·exact absurd h6 ih
  ·omega
theorem well_least {p : Ac} {n : Nat} {pl : List Nat} (h : EP p n true pl) {q : List Nat} {s m : Nat} (hr : runTo p p.start 0 (Ce q) = (s, m, true)) (hs : reachB p s = true) : pl.length < q.length \/ (pl.length = q.length /\ Bn pl q ≠ 1) := by
 obtain ⟨d, h1, ⟨j, q1, rfl, _, rfl⟩ | ⟨_, _, _, h, _⟩⟩ := h
 ·obtain ⟨hg, hl, _, _⟩ := hit_goal h1 q1
  have hat : AtD p q.length s := ⟨_, by simp [Ce], m, hr⟩
  have hge : d <= q.length := Nat.le_of_not_lt fun h => by
   have := hg.2 _ h s hat; rw [hs] at this; cases this
  rw [hl]
  rcases Nat.lt_or_ge d q.length with h2 | h2
  ·exact .inl h2
  ·right
   have hq : q.length = d := by omega
   refine ⟨hq.symm, ?_⟩
   have hv := BC p d
   obtain ⟨i, hi, hse⟩ := Gp ((hv.mem s).2 ⟨d, Nat.le_refl _, hq ▸ hat⟩)
   have hai : (srchN p d).2 <= i := Nat.le_of_not_lt fun h => by
    obtain ⟨e, he, k, hk, hn⟩ := (hv.old s).1 (List.mem_map.2 ⟨(srchN p d).1.getD i AK, List.mem_of_getElem? (i := i) (by rw [List.getElem?_take, if_pos h]; exact Dc hi), hse⟩)
    have := hg.2 k (by omega) s hn; rw [hs] at this; cases this
   have hle := Hl p d q s i hq ⟨m, hr⟩ hai hi hse
   rcases Nat.lt_trichotomy j i with h3 | h3 | h3
   ·rw [Fe (hv.asc j i q1.1 h3 hi) hle]; decide
   ·subst h3; exact hle
   ·have := q1.2.2.2 i hai h3
    rw [hse, hs] at this; cases this
 ·cases h
end
section
open Go.RowKit
set_option exponentiation.threshold 5000
def FC (m : Nat) (l : List Nat) : List (List Nat) := (List.range m).map fun k => l ++ [k]
def AZ (m : Nat) : Nat -> List (List Nat)
 | 0 => [[]]
 | n + 1 => (AZ m n).flatMap (FC m)
theorem CW {m : Nat} : ∀ {n : Nat} {q : List Nat}, q ∈ AZ m n -> q.length = n
 | 0, q, h => by rw [AZ, List.mem_singleton] at h; rw [h]; rfl
 | n + 1, q, h => by
  rw [AZ, List.mem_flatMap] at h
  obtain ⟨l, hl, h⟩ := h
  obtain ⟨k, _, rfl⟩ := List.mem_map.1 h
  rw [List.length_append, CW hl]; rfl
theorem plans_mem {m : Nat} : ∀ (n : Nat) (q : List Nat), q.length = n -> (∀ k ∈ q, k < m) -> q ∈ AZ m n
 | 0, q, h, _ => by rw [List.length_eq_zero_iff.1 h]; simp [AZ]
 | n + 1, q, h, hk => by
  obtain ⟨r, k, rfl⟩ : ∃ r k, q = r ++ [k] := ⟨q.dropLast, q.getLast (by intro e; simp [e] at h), (List.dropLast_concat_getLast _).symm⟩
  rw [AZ, List.mem_flatMap]
  exact ⟨r, plans_mem n r (by simpa using h) fun x hx => hk x (by simp [hx]), List.mem_map.2 ⟨k, List.mem_range.2 (hk k (by simp)), rfl⟩⟩
theorem FG (m : Nat) : ∀ n, (AZ m n).Pairwise fun a b => Bn a b = -1
 | 0 => by simp [AZ]
 | n + 1 => by
  rw [AZ, List.pairwise_flatMap]
  constructor
  ·intro l _
   unfold FC
   rw [List.pairwise_map]
   refine List.pairwise_lt_range.imp fun {a b} hab => ?_
   rw [CF]
   simp [Bn, CL, hab]
  ·refine List.Pairwise.imp_of_mem ?_ (FG m n)
   intro a b ha hb hab x hx y hy
   obtain ⟨k, _, rfl⟩ := List.mem_map.1 hx
   obtain ⟨j, _, rfl⟩ := List.mem_map.1 hy
   exact CM (by rw [CW ha, CW hb]) hab
theorem Gy {m : Nat} (hm : m <= 6) : ∀ n, n <= 4 -> (AZ m n).length <= 6 ^ n
 | 0, _ => by simp [AZ]
 | n + 1, hn => by
  have ih := Gy hm n (by omega)
  have e : (AZ m (n + 1)).length = (AZ m n).length * m := by
   rw [AZ, List.length_flatMap]
   have : (List.map (fun a => (FC m a).length) (AZ m n)) = List.replicate (AZ m n).length m := by
    rw [List.eq_replicate_iff]
    exact ⟨by simp, fun b hb => by obtain ⟨a, _, rfl⟩ := List.mem_map.1 hb; simp [FC]⟩
   rw [this, List.sum_replicate_nat]
  rw [e, Nat.pow_succ]
  exact Nat.mul_le_mul ih hm
def Ct (m : Nat) (ps : List (List Nat)) (i k : Nat) : List (List Nat) := (ps.take i).flatMap (FC m) ++ (FC m (ps.getD i [])).take k
theorem long_k {m : Nat} {ps : List (List Nat)} {i k : Nat} (hk : k < m) : Ct m ps i (k + 1) = Ct m ps i k ++ [ps.getD i [] ++ [k]] := by
 unfold Ct
 rw [List.take_add_one, <- List.append_assoc]
 congr 1
 unfold FC
 rw [List.getElem?_map, List.getElem?_range hk]; rfl
theorem long_i {m : Nat} {ps : List (List Nat)} {i : Nat} (hi : i < ps.length) : Ct m ps i m = Ct m ps (i + 1) 0 := by
 unfold Ct
 rw [List.take_zero, List.append_nil, List.take_of_length_le (l := FC m _) (by simp [FC]), List.take_add_one, List.getElem?_eq_getElem hi, List.flatMap_append, List.getD_eq_getElem?_getD, List.getElem?_eq_getElem hi]
 simp
theorem long_end {m : Nat} {ps : List (List Nat)} : Ct m ps ps.length 0 = ps.flatMap (FC m) := by
 unfold Ct
 rw [List.take_zero, List.append_nil, List.take_length]
theorem long_count {m : Nat} {ps : List (List Nat)} {i k : Nat} (hm : m <= 6) (hi : i <= ps.length) (hk : k <= m) : (Ct m ps i k).length <= i * 6 + 6 := by
 unfold Ct
 have e : ((ps.take i).flatMap (FC m)).length = i * m := by
  rw [List.length_flatMap]
  have : (List.map (fun a => (FC m a).length) (ps.take i)) = List.replicate i m := by
   rw [List.eq_replicate_iff]
   exact ⟨by simp; omega, fun b hb => by obtain ⟨a, _, rfl⟩ := List.mem_map.1 hb; simp [FC]⟩
  rw [this, List.sum_replicate_nat]
 rw [List.length_append, e, List.length_take]
 have := Nat.mul_le_mul_left i hm
 omega
def NoQ (p : Ac) (q : List Nat) : Prop := ∀ s m, runTo p p.start 0 (Ce q) = (s, m, true) -> reachB p s = false
theorem well_hit {p : Ac} {n : Nat} {pl : List Nat} (h : EP p n true pl) : pl ∈ AZ p.rules.length pl.length /\ ¬ NoQ p pl := by
 obtain ⟨_, s, hr, hs⟩ := (H9 h).2.2 rfl
 refine ⟨plans_mem _ _ rfl ?_, fun hn => ?_⟩
 ·obtain ⟨d, h1, ⟨j, q1, _, _, rfl⟩ | ⟨_, _, _, h, _⟩⟩ := h
  ·exact Gz (BC p d).wf (j + 1) j (by omega) q1.2.1
  ·cases h
 ·have := hn s _ hr
  rw [hs] at this; cases this
theorem well_first {p : Ac} {n : Nat} {f : Bool} {pl q : List Nat} (h : EP p n f pl) {k i s m : Nat} (hq : (AZ p.rules.length k)[i]? = some q) (hr : runTo p p.start 0 (Ce q) = (s, m, true)) (hs : reachB p s = true)
  (h1 : ∀ k', k' < k -> ∀ x ∈ AZ p.rules.length k', NoQ p x) (h2 : ∀ j, j < i -> ∀ x, (AZ p.rules.length k)[j]? = some x -> NoQ p x) : f = true /\ pl = q := by
 have hf : f = true := by
  rw [(H9 h).1]
  exact rchB_true ⟨s, at_rch ⟨_, rfl, m, hr⟩, hs⟩
 subst hf
 refine ⟨rfl, ?_⟩
 obtain ⟨hm, hno⟩ := well_hit h
 have hql := CW (List.mem_of_getElem? hq)
 rcases well_least h hr hs with h3 | ⟨h3, h4⟩
 ·exact absurd (h1 _ (by omega) pl hm) hno
 ·rw [h3, hql] at hm
  obtain ⟨j, hj⟩ := List.mem_iff_getElem?.1 hm
  have hsrt := FG p.rules.length k
  have hlt : ∀ a b : Nat, a < b -> ∀ x y, (AZ p.rules.length k)[a]? = some x -> (AZ p.rules.length k)[b]? = some y -> Bn x y = -1 := fun a b hab x y hx hy => by
   obtain ⟨ha, rfl⟩ := List.getElem?_eq_some_iff.1 hx
   obtain ⟨hb, rfl⟩ := List.getElem?_eq_some_iff.1 hy
   exact List.pairwise_iff_getElem.1 hsrt a b ha hb hab
  rcases Nat.lt_trichotomy j i with h5 | h5 | h5
  ·exact absurd (h2 j h5 pl hj) hno
  ·subst h5; rw [hj] at hq; exact Option.some.inj hq
  ·have a := hlt i j h5 q pl hq hj
   have b := Fe a h4
   rw [cmpL_refl] at b; exact absurd b (by decide)
theorem well_long {p : Ac} {n : Nat} {f : Bool} {pl : List Nat} (h : EP p n f pl) (h1 : ∀ k', k' < 4 -> ∀ x ∈ AZ p.rules.length k', NoQ p x) : f = true -> 3 < pl.length := fun hf => by
 subst hf
 obtain ⟨hm, hno⟩ := well_hit h
 exact Nat.lt_of_not_le fun h2 => hno (h1 _ (by omega) pl hm)
def Bj (w : World) (D : Nat -> Prop) (ys : List Value) (ls : List (List Nat)) : Prop := ∀ (i : Nat) (l : List Nat), ls[i]? = some l -> ∃ (A : Option Addr) (c : Nat), ys[i]? = some (Value.slice A l.length c) /\ Sl w D 1 (Value.slice A l.length c) l.length (AV l)
theorem Ck {ys : List Value} {ls : List (List Nat)} : Ao fun D w => Bj w D ys ls := fun D D' w w' h a b c i l hi => by
 obtain ⟨A, k, h1, h2⟩ := h i l hi
 exact ⟨A, k, h1, Ah (by decide) D D' w w' h2 a b c⟩
theorem Bj.append {w : World} {D : Nat -> Prop} {xs ys : List Value} {ls ms : List (List Nat)} (hx : xs.length = ls.length) (h : Bj w D xs ls) (k : Bj w D ys ms) : Bj w D (xs ++ ys) (ls ++ ms) := fun i l hi => by
 rcases Nat.lt_or_ge i ls.length with h1 | h1
 ·rw [List.getElem?_append_left h1] at hi
  obtain ⟨A, c, q1, q2⟩ := h i l hi
  exact ⟨A, c, by rw [List.getElem?_append_left (by omega)]; exact q1, q2⟩
 ·rw [List.getElem?_append_right h1] at hi
  obtain ⟨A, c, q1, q2⟩ := k _ l hi
  exact ⟨A, c, by rw [List.getElem?_append_right (by omega), hx]; exact q1, q2⟩
theorem Bj.single {w : World} {D : Nat -> Prop} {A : Option Addr} {c : Nat} {l : List Nat} (h : Sl w D 1 (Value.slice A l.length c) l.length (AV l)) : Bj w D [Value.slice A l.length c] [l] := fun i x hi => by
 cases i with
 | zero => obtain rfl := Option.some.inj (show some l = some x from hi); exact ⟨A, c, rfl, h⟩
 | succ i => simp at hi
end
section
open Go.RowKit
attribute [local go_sem ↓] Go.wp_at_zero Go.wp_at_succ
set_option maxRecDepth 20000
set_option exponentiation.threshold 5000
theorem iclone_any {w0 : World} {D : Nat -> Prop} {pv : Value} {n : Nat} {xs : List Value} (h : Sl w0 D 1 pv n xs) (ho : ∀ u ∈ xs, u.oneCell' = true) (hl : n <= 1000000) : Calls Tryz.prog 20 #[pv] w0 fun e w' => ∃ v, e = .returned v /\ St w0 w' [.own v 3 1 n xs] fun _ _ => True := by
 obtain ⟨A, c, rfl, hc1, hc2⟩ := h.shape
 obtain ⟨K, kp, hS⟩ : ∃ K : (Nat -> Prop) -> World -> Prop, (∀ D w, K D w -> Sl w D 1 (.slice A n c) n xs) /\ St w0 w0 [] K := ⟨_, fun _ _ h => h, St.start (Ah (by decide)) h⟩
 clear h
 cases A with
 | none =>
  obtain ⟨rfl, rfl⟩ : n = 0 /\ xs = [] := by
   obtain ⟨h1, A, c2, h2, _, _, h5⟩ := kp _ _ hS.ro
   rcases Nat.eq_zero_or_pos n with h | h
   ·subst h; exact ⟨rfl, List.length_eq_zero_iff.1 (by omega)⟩
   ·obtain ⟨b, o, h6, _⟩ := h5 h
    injection h2 with h2; rw [<- h2] at h6; cases h6
  go_enter Tryz.func20, Tryz.ntmps20
  go_wp2_with (first
   | ((with_reducible refine qB ?_); refine qc ?_ ?_ <;> intro h_ <;> go_prune)
   | ((with_reducible refine qA 4 ?_); refine BigFrame.wpList_want rfl fun _ hK => AH (vx := .slice none 0 c) (vy := .slice none 0 0) (v := .bool true) rfl rfl rfl rfl (Lib.run_eql_slice_nil _ _ _ _ _ _ _ _ Tryz.underlying40) (hK _ _ ?_)))
  go_ret
  exact ⟨_, rfl, ((hS.nil 3 1)).mono (Ao.pure True) fun _ _ _ => trivial⟩
 | some ad =>
  go_enter Tryz.func20, Tryz.ntmps20
  go_wp2_with (first
   | ((with_reducible refine qA 4 ?_); refine BigFrame.wpList_want rfl fun _ hK => AH (vx := .slice (some ad) n c) (vy := .slice none 0 0) (v := .bool false) rfl rfl rfl rfl (Lib.run_eql_slice_nil _ _ _ _ _ _ _ _ Tryz.underlying40) (hK _ _ ?_))
   | ((with_reducible show wpList _ _ _ (⟨_, .buildSlice _ 0 _, _, _, _, _⟩ :: _) _ _); refine Hj hS rfl _ _ rfl Tryz.underlying40 (by kernel_rfl) 1 ?_; clear hS; intro ge w_ hS)
   | ((with_reducible refine qA 7 ?_); refine st_appf hS 0 rfl _ _ _ rfl Dh _ rfl rfl _ _ _ _ rfl (kp _ _ hS.ro) ho (by omega) (by omega) ?_; clear hS; intro g cap w_ hS))
  go_ret
  exact ⟨_, rfl, hS.mono (Ao.pure True) fun _ _ _ => trivial⟩
end
section
open Go.RowKit
attribute [local go_sem ↓] Go.wp_at_zero Go.wp_at_succ
set_option maxRecDepth 20000
set_option exponentiation.threshold 5000
theorem ty_lsts : B6 Tryz.prog 53 40 1 24 := ⟨Tryz.underlying53, by kernel_rfl⟩
set_option maxHeartbeats 8000000 in
theorem lfshort_any (v : Value) (l : List Nat) (W : World) (D : Nat -> Prop) (hl : ∀ x ∈ l, x < 256) (hv : Sl W D 1 v l.length (Fj l)) (hT : BM W) : Calls Tryz.prog 5 #[v] W (AE (fun x _ => x = .bool true) W) := by
 obtain ⟨K, kt, k1, hS⟩ := start_bytesF hT hv
 clear hv hT
 have HL := Lib.hid hl
 clear hl
 go_enter Tryz.func5, Tryz.ntmps5
 go_wp2_with (first
  | (go_at_call 13; refine (lawake32_any hS kt).mono ?_; clear hS; rintro e w_ ⟨rfl, hS⟩)
  | (go_at_call 14; refine (lmake31_any HL.out hS k1 kt).mono ?_; clear hS; rintro e w_ ⟨x, u, rfl, p, ⟨L, R, hM⟩, hS⟩; replace hM := Lib.hid hM; obtain ⟨la, As, ns, cs, Ar, cr, An, cn, Ag, cg, rfl⟩ := hS.ro.2.1.shape6; obtain ⟨us, rfl, hu6, hu1⟩ := hS.ro.2.2.cells; replace hu6 := Lib.hid hu6)
  | ((with_reducible refine qA 3 ?_); refine qa hS #[.int .i64 0, .pointer none, .slice none 0 0, .slice none 0 0, .slice none 0 0, .slice none 0 0] ?_; clear hS; intro g3 w_ hS)
  | ((with_reducible refine qA 4 ?_); refine qa hS #[.int .i64 0, .slice none 0 0, .int .u64 0, .slice none 0 0, .slice none 0 0, .slice none 0 0] ?_; clear hS; intro g4 w_ hS)
  | ((with_reducible refine qm 37 ?_); refine Bb hS 0 rfl _ _ _ rfl _ _ rfl rfl _ _ rfl (by rw [hu6.out]; kernel_rfl) (by rw [hu6.out]; rfl) hu1 ?_; clear hS; intro w_ hS; (try simp only [Act.put, Act.eval, zz, Value.cells] at hS))
  | ((with_reducible refine qm 31 ?_); refine qS hS ?_; clear hS; intro w_ hS; (try simp only [Act.put, Act.eval, zz, Value.cells] at hS))
  | ((with_reducible refine qA 30 ?_); refine BigFrame.wpList_want rfl fun _ hK => Bq rfl rfl (hS.box 1 rfl) Tryz.underlying31 rfl (by kernel_rfl) (hK _ _ ?_)))
 refine (DV 64 (fun _ => by decide) hM.out.ok (by have := hM.out.rlen; omega) hS (fun D w h => h.2.1) (fun D w h => (kt _ _ h.1).1)).mono ?_
 clear hS
 rintro e w_ ⟨nn, f, pl, er, u, hF, rfl, hS⟩
 obtain ⟨rfl, hF2⟩ := fwd_well hM.out hM.out.check (by decide) hF
 clear hF
 obtain ⟨Ap, cp, rfl, hcap, _⟩ := hS.ro.2.shape
 have HF := Lib.hid hF2
 clear hF2
 have hr6 := hM.out.rlen
 go_wp2_with (first
  | ((with_reducible refine qA 6 ?_); refine qa hS #[.int .i64 0, .bool false, .slice none 0 0] ?_; clear hS; intro g6 w_ hS)
  | ((with_reducible refine qm 42 ?_); refine qS hS ?_; clear hS; intro w_ hS; (try simp only [Act.put, Act.eval, zz, Value.cells] at hS))
  | ((with_reducible refine qB ?_); refine qc ?_ ?_ <;> intro h_ <;> go_prune)
  | ((with_reducible refine qA 36 ?_); refine Cz hS rfl _ 3 0 _ rfl Tryz.underlying40 #[] (by kernel_rfl) 1 rfl (by decide) ?_; clear hS; intro g36 w_ hS; (try simp only [Act.put, List.setIfInBounds_toArray, List.set_cons_zero, List.set_cons_succ]))
  | ((with_reducible refine qA 37 ?_); refine Cz hS rfl _ 40 1 _ rfl Tryz.underlying53 #[.slice (some ⟨g36, 0, none⟩) 0 0] (by kernel_rfl) 1 rfl (by decide) ?_; clear hS; intro g37 w_ hS; (try simp only [Act.put, List.setIfInBounds_toArray, List.set_cons_zero, List.set_cons_succ])))
 replace hS := hS.freeze 1 (by decide) rfl
 obtain ⟨K8, k8, hS2⟩ : ∃ K8 : (Nat -> Prop) -> World -> Prop, Hid (∀ D w, K8 D w -> BM w /\ Bg w D (.agg #[.int .i64 p.roles, .pointer la, .slice As ns cs, .slice Ar p.rules.length cr, .slice An p.never.length cn, .slice Ag p.goal.length cg]) p /\ Sl w D 1 (.slice Ap pl.length cp) pl.length (AV pl) /\ Sl w D 1 (.slice (some ⟨g36, 0, none⟩) 0 0) 0 []) /\ St W w_ (.own (.slice (some ⟨g37, 0, none⟩) 1 1) 40 1 1 [.slice (some ⟨g36, 0, none⟩) 0 0] :: [.box g6 42 #[.int .i64 (nn : Nat), .bool f, .slice Ap pl.length cp], .box g4 37 us, .box g3 31 #[.int .i64 p.roles, .pointer la, .slice As ns cs, .slice Ar p.rules.length cr, .slice An p.never.length cn, .slice Ag p.goal.length cg]]) K8 := ⟨_, Lib.hid fun D w h => ⟨(kt _ _ h.1.1.1).1, h.1.1.2.1, h.1.2, h.2⟩, hS⟩
 clear hS
 have hS := hS2
 clear hS2
 have hK8 := Lib.hid hS.stable
 obtain ⟨m, hm⟩ : ∃ m, p.rules.length = m := ⟨_, rfl⟩
 have HM6 := Lib.hid hm
 have hm6 : m <= 6 := by omega
 clear hm
 go_loopw [8, 9] (fun pv nv wr => ∃ (n : Nat) (ys : List Value), nv = .int .i64 (n : Nat) /\ n <= 4 /\ Hid (∀ k, k < n -> ∀ q ∈ AZ m k, NoQ p q) /\ St W wr (.own pv 40 1 (AZ m n).length ys :: [.box g6 42 #[.int .i64 (nn : Nat), .bool f, .slice Ap pl.length cp], .box g4 37 us, .box g3 31 #[.int .i64 p.roles, .pointer la, .slice As ns cs, .slice Ar p.rules.length cr, .slice An p.never.length cn, .slice Ag p.goal.length cg]]) (fun D w => K8 D w /\ Bj w D ys (AZ m n))) (fun _ nv _ => 4 - (intOf nv).toNat)
 case atStart => exact ⟨0, _, rfl, by omega, Lib.hid fun k h => by omega, hS.mono (hK8.out.and Ck) fun D w h => ⟨h, Bj.single (l := []) (k8.out _ _ h).2.2.2⟩⟩
 case round =>
  clear hS
  obtain ⟨n, ys, rfl, hn, HN, hS⟩ := hrel
  by_cases hn3 : n <= 3
  ·have hcnt := Gy (m := m) (by omega) n (by omega)
   have hc6 : 6 ^ n <= 216 := by
    have : ∀ n, n <= 3 -> 6 ^ n <= 216 := by decide
    exact this n hn3
   have HSUC := Lib.hid (show AZ m (n + 1) = (AZ m n).flatMap (FC m) from rfl)
   have HFIRST := Lib.hid fun i q s mm => well_first (k := n) (i := i) (q := q) (s := s) (m := mm) HF.out
   rw [HM6.out] at HFIRST
   have HYL := Lib.hid (hS.own 0 rfl).1
   obtain ⟨ps, hps⟩ : ∃ ps, AZ m n = ps := ⟨_, rfl⟩
   have HPS := Lib.hid hps
   rw [hps] at hS hcnt HSUC HFIRST HYL
   clear hps
   have hp216 : ps.length <= 216 := by omega
   obtain ⟨Av, cv, rfl, hcv, _⟩ := B9 (hS.own 0 rfl)
   go_wp2_with (first | ((with_reducible refine qB ?_); refine qc ?_ ?_ <;> intro h_ <;> go_prune))
   go_loopw [44] (fun iv wr => ∃ i : Nat, iv = .int .i64 (i : Nat) /\ i <= ps.length /\ Hid (∀ j, j < i -> ∀ x, ps[j]? = some x -> NoQ p x) /\ St W wr (.own (.slice Av ps.length cv) 40 1 ps.length ys :: [.box g6 42 #[.int .i64 (nn : Nat), .bool f, .slice Ap pl.length cp], .box g4 37 us, .box g3 31 #[.int .i64 p.roles, .pointer la, .slice As ns cs, .slice Ar p.rules.length cr, .slice An p.never.length cn, .slice Ag p.goal.length cg]]) (fun D w => K8 D w /\ Bj w D ys ps)) (fun iv _ => ps.length - (intOf iv).toNat)
   case atStart => exact ⟨0, rfl, by omega, Lib.hid fun j h => by omega, hS⟩
   case round =>
    clear hS
    obtain ⟨i, rfl, hi, HI, hS⟩ := hrel
    by_cases hil : i < ps.length
    ·obtain ⟨go, co, hgo, _, _⟩ := Ba (hS.own 0 rfl) (by omega)
     injection hgo with hgo _ hco
     subst hgo hco
     obtain ⟨q, hq⟩ : ∃ q, ps[i]? = some q := ⟨_, List.getElem?_eq_getElem hil⟩
     obtain ⟨Aq, cq, hy, -⟩ := hS.ro.2 i q hq
     have HQ := Lib.hid hq
     have HY := Lib.hid hy
     have HSQ : Hid (∀ D w, Bj w D ys ps -> Sl w D 1 (.slice Aq q.length cq) q.length (AV q)) := Lib.hid fun D w h => by
      obtain ⟨A, c, h1, h2⟩ := h i q HQ.out
      rw [HY.out] at h1
      obtain ⟨rfl, rfl⟩ : Aq = A /\ cq = c := by
       have := Option.some.inj h1
       injection this with e1 _ e3
       exact ⟨e1, e3⟩
      exact h2
     have hql : q.length <= 3 := by
      have := CW (m := m) (n := n) (q := q) (by rw [HPS.out]; exact List.mem_of_getElem? hq)
      omega
     clear hq hy
     go_wp2_with (first
      | ((with_reducible refine qB ?_); refine qc ?_ ?_ <;> intro h_ <;> go_prune)
      | ((with_reducible refine qk 40 ?_); refine BigFrame.wpList_want rfl fun _ hK => Ab rfl rfl (by kernel_rfl) (AO (hS.own 0 rfl) _ _ HY.out) (hK _ _ ?_))
      | ((with_reducible refine qA 49 ?_); refine BigFrame.wpList_want rfl fun _ hK => Bq rfl rfl (hS.box 3 rfl) Tryz.underlying31 rfl (by kernel_rfl) (hK _ _ ?_)))
     refine (srun_any (l := Ce q) hM.out.links hM.out.ok (by rw [EI]; omega) hS (fun D w h => (k8.out _ _ h.1).2.1) (fun D w h => by rw [Fd, EI]; exact HSQ.out _ _ h.2) (fun D w h => (k8.out _ _ h.1).1)).mono ?_
     clear hS
     rintro e w_ ⟨x, N1, n1, b1, rfl, hr1, hS⟩
     obtain ⟨ux, rfl, hux⟩ := CT hS.ro.2
     obtain ⟨rb, hrb⟩ : ∃ rb, reachB p N1 = rb := ⟨_, rfl⟩
     have HRB := Lib.hid hrb
     clear hrb
     have next : Hid ((b1 = true -> rb = false) -> ∀ j, j < i + 1 -> ∀ x, ps[j]? = some x -> NoQ p x) := Lib.hid fun h j hj x hx => by
      rcases Nat.lt_or_ge j i with h3 | h3
      ·exact HI.out j h3 x hx
      ·obtain rfl : j = i := by omega
       rw [HQ.out] at hx
       obtain rfl := Option.some.inj hx
       intro s mm hr2
       have e := hr1.out.symm.trans hr2
       simp only [Prod.mk.injEq] at e
       obtain ⟨rfl, -, e3⟩ := e
       rw [HRB.out]; exact h e3
     cases b1
     ·go_wp2_with (first
       | ((with_reducible refine qA 12 ?_); refine qa hS #[.slice none 0 0] ?_; clear hS; intro g12 w_ hS)
       | ((with_reducible refine qm 27 ?_); refine Bb hS 0 rfl _ _ _ rfl _ _ rfl rfl _ _ rfl (by kernel_rfl) (by kernel_rfl) (by simpa using hux) ?_; clear hS; intro w_ hS; (try simp only [Act.put, Act.eval, zz, Value.cells] at hS)))
      exact ⟨⟨i + 1, by go_num, hil, Lib.hid (next.out (fun h => by cases h)), (hS.sub (List.sublist_cons_self _ _)).mono (hK8.out.and Ck) fun D w h => h.1⟩, by simp [intOf]; omega⟩
     ·cases rb
      ·go_wp2_with (first
        | ((with_reducible refine qA 12 ?_); refine qa hS #[.slice none 0 0] ?_; clear hS; intro g12 w_ hS)
        | ((with_reducible refine qm 27 ?_); refine Bb hS 0 rfl _ _ _ rfl _ _ rfl rfl _ _ rfl (by kernel_rfl) (by kernel_rfl) (by simpa using hux) ?_; clear hS; intro w_ hS; (try simp only [Act.put, Act.eval, zz, Value.cells] at hS))
        | ((with_reducible refine qA 58 ?_); refine BigFrame.wpList_want rfl fun _ hK => Bq rfl rfl (hS.box 4 rfl) Tryz.underlying31 rfl (by kernel_rfl) (hK _ _ ?_))
        | ((with_reducible refine qA 59 ?_); refine BigFrame.wpList_want rfl fun _ hK => Bq rfl rfl (hS.box 0 rfl) Tryz.underlying27 rfl (by kernel_rfl) (hK _ _ ?_))
        | (go_at_call 19; refine (Ei (k8.out _ _ hS.ro.1.1).2.1 hM.out.ok (k8.out _ _ hS.ro.1.1).1 hS.ro.2).mono ?_; rw [HRB.out]; rintro r_ w_ ⟨_, rfl, rfl, hb_⟩; replace hS := hS.ext hb_; clear hb_))
       exact ⟨⟨i + 1, by go_num, hil, Lib.hid (next.out (fun _ => by trivial)), (hS.sub (List.sublist_cons_self _ _)).mono (hK8.out.and Ck) fun D w h => h.1⟩, by simp [intOf]; omega⟩
      ·obtain ⟨rfl, rfl⟩ := HFIRST.out i q N1 n1 HQ.out hr1.out HRB.out HN.out HI.out
       go_wp2_with (first
        | ((with_reducible refine qA 12 ?_); refine qa hS #[.slice none 0 0] ?_; clear hS; intro g12 w_ hS)
        | ((with_reducible refine qm 27 ?_); refine Bb hS 0 rfl _ _ _ rfl _ _ rfl rfl _ _ rfl (by kernel_rfl) (by kernel_rfl) (by simpa using hux) ?_; clear hS; intro w_ hS; (try simp only [Act.put, Act.eval, zz, Value.cells] at hS))
        | ((with_reducible refine qA 58 ?_); refine BigFrame.wpList_want rfl fun _ hK => Bq rfl rfl (hS.box 4 rfl) Tryz.underlying31 rfl (by kernel_rfl) (hK _ _ ?_))
        | ((with_reducible refine qA 59 ?_); refine BigFrame.wpList_want rfl fun _ hK => Bq rfl rfl (hS.box 0 rfl) Tryz.underlying27 rfl (by kernel_rfl) (hK _ _ ?_))
        | (go_at_call 19; refine (Ei (k8.out _ _ hS.ro.1.1).2.1 hM.out.ok (k8.out _ _ hS.ro.1.1).1 hS.ro.2).mono ?_; rw [HRB.out]; rintro r_ w_ ⟨_, rfl, rfl, hb_⟩; replace hS := hS.ext hb_; clear hb_)
        | ((with_reducible refine qA 64 ?_); refine Dj hS 2 rfl _ _ rfl _ 1 rfl _ _ rfl (by decide +kernel) _ rfl ?_)
        | ((with_reducible refine qA 67 ?_); refine Dj hS 2 rfl _ _ rfl _ 2 rfl _ _ rfl (by decide +kernel) _ rfl ?_)
        | (go_at_call 17; refine (sleq_any _ _ (Ce pl) (Ce pl) _ _ _ (by rw [Fd, EI]; exact (k8.out _ _ hS.ro.1.1).2.2.1) (by rw [Fd, EI]; exact HSQ.out _ _ hS.ro.1.2)).mono ?_; rw [show (Ce pl == Ce pl) = true from beq_self_eq_true _]; rintro r_ w_ ⟨_, rfl, rfl, hb_⟩; replace hS := hS.ext hb_; clear hb_))
       go_ret
       exact AE.mk rfl hS.below
    ·obtain rfl : i = ps.length := by omega
     have HNN : Hid (∀ k, k < n + 1 -> ∀ q ∈ AZ m k, NoQ p q) := Lib.hid fun k hk q hq => by
      rcases Nat.lt_or_ge k n with h3 | h3
      ·exact HN.out k h3 q hq
      ·obtain rfl : k = n := by omega
       rw [HPS.out] at hq
       obtain ⟨j, hj⟩ := List.mem_iff_getElem?.1 hq
       exact HI.out j (List.getElem?_eq_some_iff.1 hj).1 q hj
     clear HI HFIRST hcnt
     go_wp2_with (first | ((with_reducible refine qB ?_); refine qc ?_ ?_ <;> intro h_ <;> go_prune))
     replace hS := hS.nil 40 1
     have hst : Hid (St W wr (.own (.slice none 0 0) 40 1 (Ct m ps 0 0).length [] :: .own (.slice Av ps.length cv) 40 1 ps.length ys :: [.box g6 42 #[.int .i64 (nn : Nat), .bool f, .slice Ap pl.length cp], .box g4 37 us, .box g3 31 #[.int .i64 p.roles, .pointer la, .slice As ns cs, .slice Ar p.rules.length cr, .slice An p.never.length cn, .slice Ag p.goal.length cg]]) (fun D w => (K8 D w /\ Bj w D ys ps) /\ Bj w D [] (Ct m ps 0 0))) := Lib.hid (by
      rw [show Ct m ps 0 0 = [] by simp [Ct]]
      exact hS.mono ((hK8.out.and Ck).and Ck) fun D w h => ⟨h, fun i l hi => by simp at hi⟩)
     clear hS
     go_loopw [15, 74] (fun xv iv wr => ∃ (i : Nat) (zs : List Value), iv = .int .i64 (i : Nat) /\ i <= ps.length /\ Hid (St W wr (.own xv 40 1 (Ct m ps i 0).length zs :: .own (.slice Av ps.length cv) 40 1 ps.length ys :: [.box g6 42 #[.int .i64 (nn : Nat), .bool f, .slice Ap pl.length cp], .box g4 37 us, .box g3 31 #[.int .i64 p.roles, .pointer la, .slice As ns cs, .slice Ar p.rules.length cr, .slice An p.never.length cn, .slice Ag p.goal.length cg]]) (fun D w => (K8 D w /\ Bj w D ys ps) /\ Bj w D zs (Ct m ps i 0)))) (fun _ iv _ => ps.length - (intOf iv).toNat)
     case atStart => exact ⟨0, [], rfl, Nat.zero_le _, hst⟩
     case round =>
      clear hst
      obtain ⟨i, zs, rfl, hi, HS⟩ := hrel
      by_cases hil : i < ps.length
      ·have hS := HS.out
       clear HS
       obtain ⟨go, co, hgo, _, _⟩ := Ba (hS.own 1 rfl) (by omega)
       injection hgo with hgo _ hco
       subst hgo hco
       obtain ⟨q, hq⟩ : ∃ q, ps[i]? = some q := ⟨_, List.getElem?_eq_getElem hil⟩
       obtain ⟨Aq, cq, hy, -⟩ := hS.ro.1.2 i q hq
       have HQD : Hid (ps.getD i [] = q) := Lib.hid (by rw [List.getD_eq_getElem?_getD, hq]; rfl)
       have HQ := Lib.hid hq
       have HY := Lib.hid hy
       have HSQ : Hid (∀ D w, Bj w D ys ps -> Sl w D 1 (.slice Aq q.length cq) q.length (AV q)) := Lib.hid fun D w h => by
        obtain ⟨A, c, h1, h2⟩ := h i q HQ.out
        rw [HY.out] at h1
        obtain ⟨rfl, rfl⟩ : Aq = A /\ cq = c := by
         have := Option.some.inj h1
         injection this with e1 _ e3
         exact ⟨e1, e3⟩
        exact h2
       have hql : q.length <= 3 := by
        have := CW (m := m) (n := n) (q := q) (by rw [HPS.out]; exact List.mem_of_getElem? hq)
        omega
       have HONE : Hid (∀ u ∈ AV q, u.oneCell' = true) := Lib.hid fun u hu => by
        unfold AV at hu
        obtain ⟨x, _, rfl⟩ := List.mem_map.1 hu
        rfl
       clear hq hy
       go_wp2_with (first
        | ((with_reducible refine qB ?_); refine qc ?_ ?_ <;> intro h_ <;> go_prune)
        | ((with_reducible refine qk 40 ?_); refine BigFrame.wpList_want rfl fun _ hK => Ab rfl rfl (by kernel_rfl) (AO (hS.own 1 rfl) _ _ HY.out) (hK _ _ ?_))
        | ((with_reducible refine qA 79 ?_); refine Dj hS 4 rfl _ _ rfl _ 3 rfl _ _ rfl (by decide +kernel) _ rfl ?_))
       have hS4 := Lib.hid hS
       clear hS
       go_loopw [15, 81] (fun xv kv wr => ∃ (k : Nat) (zs : List Value), kv = .int .i64 (k : Nat) /\ k <= m /\ Hid (St W wr (.own xv 40 1 (Ct m ps i k).length zs :: .own (.slice (some ⟨go, 0, none⟩) ps.length cv) 40 1 ps.length ys :: [.box g6 42 #[.int .i64 (nn : Nat), .bool f, .slice Ap pl.length cp], .box g4 37 us, .box g3 31 #[.int .i64 p.roles, .pointer la, .slice As ns cs, .slice Ar p.rules.length cr, .slice An p.never.length cn, .slice Ag p.goal.length cg]]) (fun D w => (K8 D w /\ Bj w D ys ps) /\ Bj w D zs (Ct m ps i k)))) (fun _ kv _ => m - (intOf kv).toNat)
       case atStart => exact ⟨0, zs, rfl, Nat.zero_le _, hS4⟩
       case round =>
        clear hS4
        obtain ⟨k, zs, rfl, hk, HS⟩ := hrel
        have hmr : p.rules.length = m := HM6.out
        by_cases hkm : k < m
        ·have hS := HS.out
         clear HS
         have HLK := Lib.hid (long_k (m := m) (ps := ps) (i := i) hkm)
         rw [HQD.out] at HLK
         have hlc := long_count (m := m) (ps := ps) (i := i) (k := k) hm6 hi hk
         have hkr : k < p.rules.length := by omega
         clear hmr
         obtain ⟨LR, hLR⟩ : ∃ LR, Ct m ps i k = LR := ⟨_, rfl⟩
         rw [hLR] at hS HLK hlc
         clear hLR
         have hl6 : LR.length <= 5000 := by omega
         have HZL := Lib.hid (hS.own 0 rfl).1
         obtain ⟨Ax, cx, rfl, _, _⟩ := B9 (hS.own 0 rfl)
         clear hlc
         go_wp2_with (first
          | ((with_reducible refine qB ?_); refine qc ?_ ?_ <;> intro h_ <;> go_prune)
          | (go_at_call 20; refine (iclone_any (HSQ.out _ _ hS.ro.1.2) HONE.out (by omega)).mono ?_; rintro e w_ ⟨cv2, rfl, hs_⟩; replace hS := hS.new hs_.below (.own cv2 3 1 q.length (AV q)) (hs_.own 0 rfl); clear hs_)
          | ((with_reducible refine qA 88 ?_); refine Di hS 0 rfl rfl _ _ _ _ rfl rfl Dh cv2 q.length (AV q) (.int .i64 (k : Nat)) #[.int .i64 (k : Nat)] rfl (by kernel_rfl) rfl rfl rfl rfl (by intro u hu; simp at hu; subst hu; rfl) (by omega) (by omega) ?_; clear hS; intro z_ v89 w_ hS; obtain ⟨A89, c89, rfl, _, _⟩ := B9 (hS.own 0 rfl); (try simp only [Act.put, Act.eval, zz, Value.cells] at hS))
          | ((with_reducible refine qA 90 ?_); refine Di hS 1 rfl rfl _ _ _ _ rfl rfl ty_lsts (.slice Ax LR.length cx) LR.length zs (.slice A89 (q.length + 1) c89) #[.slice A89 (q.length + 1) c89] rfl (by kernel_rfl) rfl rfl rfl rfl (by intro u hu; simp at hu; subst hu; rfl) (by omega) (by omega) ?_; clear hS; intro z_ v91 w_ hS; (try simp only [Act.put, Act.eval, zz, Value.cells] at hS)))
         refine ⟨⟨k + 1, zs ++ [.slice A89 (q.length + 1) c89], by go_num, hkm, Lib.hid ?_⟩, by simp [intOf]; omega⟩
         rw [HLK.out, List.length_append, List.length_singleton]
         refine (hS.freeze 0 (by decide) rfl).mono ((hK8.out.and Ck).and Ck) fun D w h => ⟨h.1.1, Bj.append (by have := HZL.out; omega) h.1.2 ?_⟩
         have e1 : (q ++ [k]).length = q.length + 1 := by simp
         have e2 : AV (q ++ [k]) = AV q ++ [.int .i64 (k : Nat)] := by simp [AV]
         have hsg := Bj.single (w := w) (D := D) (A := A89) (c := c89) (l := q ++ [k]) (by rw [e1, e2]; exact h.2)
         rw [e1] at hsg
         exact hsg
        ·obtain rfl : k = m := by omega
         have HKR : ¬ ((k : Nat) : Int) < ((p.rules.length : Nat) : Int) := by omega
         rw [long_i hil] at HS
         clear hmr
         go_wp2_with (first | ((with_reducible refine qB ?_); refine qc ?_ ?_ <;> intro h_ <;> go_prune))
         exact ⟨⟨i + 1, zs, by go_num, hil, HS⟩, by simp [intOf]; omega⟩
      ·obtain rfl : i = ps.length := by omega
       rw [long_end, <- HSUC.out] at HS
       have hS := HS.out
       clear HS
       go_wp2_with (first | ((with_reducible refine qB ?_); refine qc ?_ ?_ <;> intro h_ <;> go_prune))
       refine ⟨⟨n + 1, zs, by go_num, by omega, HNN, ?_⟩, by simp [intOf]; omega⟩
       exact (hS.sub (.cons_cons _ (List.sublist_cons_self _ _))).mono (hK8.out.and Ck) fun D w h => ⟨h.1.1, h.2⟩
  ·obtain rfl : n = 4 := by omega
   have HLG := Lib.hid (well_long HF.out (by rw [HM6.out]; exact HN.out))
   cases f
   ·go_wp2_with (first
     | ((with_reducible refine qB ?_); refine qc ?_ ?_ <;> intro h_ <;> go_prune)
     | ((with_reducible refine qA 96 ?_); refine Dj hS 1 rfl _ _ rfl _ 1 rfl _ _ rfl (by decide +kernel) _ rfl ?_)
     | ((with_reducible refine qA 100 ?_); refine Dj hS 1 rfl _ _ rfl _ 2 rfl _ _ rfl (by decide +kernel) _ rfl ?_))
    go_ret
    exact AE.mk rfl hS.below
   ·have h3 := HLG.out (by trivial)
    go_wp2_with (first
     | ((with_reducible refine qB ?_); refine qc ?_ ?_ <;> intro h_ <;> go_prune)
     | ((with_reducible refine qA 96 ?_); refine Dj hS 1 rfl _ _ rfl _ 1 rfl _ _ rfl (by decide +kernel) _ rfl ?_)
     | ((with_reducible refine qA 100 ?_); refine Dj hS 1 rfl _ _ rfl _ 2 rfl _ _ rfl (by decide +kernel) _ rfl ?_))
    go_ret
    exact AE.mk rfl hS.below
end
section
open Go.RowKit Go.ChangeShapes Go.WideShapes
section
variable {H : Type} {enc : TypeId × Value -> H} {P : Program} {w : World} {base : Nat} {sp : Nat -> Bool} {held : Bool}
theorem sl_of_trod {t e : TypeId} {size fuel : Nat} {cs : List Value} {x : DataW H × List MemPlace} (ht : P.underlying t = some (.slice e)) (hc : P.cellsOf e = size) (hsz : 0 < size) (h : DataW.trod enc P w base sp held fuel t cs = some x) :
  ∃ v n xs, cs = [v] /\ Sl w (fun _ => True) size v n xs /\ ∀ k, k < n -> ∃ f' y, DataW.trod enc P w base sp held f' e ((xs.drop (k * size)).take size) = some y := by
 rcases DataW.trod_slice ht h with ⟨rfl, _⟩ | ⟨a, len, cap, elems, rest, n, _, rfl, _, hb, hl, hm, hlen, hel, _⟩
 ·exact ⟨_, 0, [], rfl, ⟨by simp, none, 0, rfl, Nat.le_refl _, Nat.zero_le _, fun h => by omega⟩, fun k hk => by omega⟩
 ·rw [hc] at hel
  have each : ∀ k, k < len -> ∃ ck y, w.cells? base (a.add (k * size)) size = some ck /\ DataW.trod enc P w base sp held n e ck = some y := by
   intro k hk
   have h1 := hel k hk
   rw [List.getElem?_eq_getElem (by omega)] at h1
   obtain ⟨ck, h2, h3⟩ := Option.bind_eq_some_iff.1 h1
   exact ⟨ck, _, h2, h3⟩
  have hadd : ∀ i j, (a.add i).add j = a.add (i + j) := by
   intro i j
   unfold Addr.add
   by_cases h1 : i = 0 <;> by_cases h2 : j = 0 <;> simp [h1, h2, Nat.add_assoc]
  have cell : ∀ j, j < len * size -> ∃ x, w.cell? (a.add j) = some x := by
   intro j hj
   have hk : j / size < len := (Nat.div_lt_iff_lt_mul hsz).2 hj
   obtain ⟨ck, y, h1, h2⟩ := each _ hk
   obtain ⟨_, h3, h4⟩ := World.cells?_some h1
   have h5 := h4 (j % size) (Nat.mod_lt _ hsz)
   rw [hadd, Nat.mul_comm, Nat.div_add_mod] at h5
   rw [h5, List.getElem?_eq_getElem (by rw [h3]; exact Nat.mod_lt _ hsz)]
   exact ⟨_, rfl⟩
  refine ⟨.slice (some a) len cap, len, (List.range (len * size)).map fun j => (w.cell? (a.add j)).getD undef, rfl, ⟨by simp, some a, cap, rfl, hl, hm, fun h0 => ?_⟩, fun k hk => ?_⟩
  ·obtain ⟨x0, hx0⟩ := cell 0 (Nat.mul_pos h0 hsz)
   obtain ⟨b, o, s⟩ := a
   have hs : s = none := cell_spot hx0
   subst hs
   refine ⟨b, o, rfl, trivial, ?_, fun j x hx => ?_⟩
   ·have := hx0
    unfold World.cell? at this
    simp only [Addr.add] at this
    rcases Nat.lt_or_ge b w.heap.size with hlt | hge
    ·exact hlt
    ·simp [Array.getElem?_eq_none hge] at this
   ·simp only [List.getElem?_map, Option.map_eq_some_iff] at hx
    obtain ⟨j', hj', rfl⟩ := hx
    have hjl := (List.getElem?_eq_some_iff.1 hj').1
    rw [List.getElem?_range (by simpa using hjl)] at hj'
    obtain rfl := Option.some.inj hj'
    obtain ⟨y, hy⟩ := cell j (by simpa using hjl)
    rw [hy]
    have e : (⟨b, o, none⟩ : Addr).add j = ⟨b, o + j, none⟩ := by
     unfold Addr.add; split <;> simp [*]
    rw [e] at hy
    exact hy
  ·obtain ⟨ck, y, h1, h2⟩ := each k hk
   obtain ⟨_, h3, h4⟩ := World.cells?_some h1
   refine ⟨n, y, ?_⟩
   rw [<- h2]
   congr 1
   have hle : k * size + size <= len * size := by
    rw [<- Nat.succ_mul]; exact Nat.mul_le_mul_right _ hk
   apply List.ext_getElem?
   intro i
   rcases Nat.lt_or_ge i size with hi | hi
   ·rw [List.getElem?_take_of_lt hi, List.getElem?_drop, List.getElem?_map, List.getElem?_range (by omega)]
    have h5 := h4 i hi
    rw [hadd] at h5
    simp only [Option.map_some]
    rw [h5, List.getElem?_eq_getElem (by omega)]
    simp
   ·rw [List.getElem?_eq_none (by simp; omega), List.getElem?_eq_none (by omega)]
end
theorem u8_nat {n : Int} (h : (Lit.int .u8 n).wf = true) : ∃ m : Nat, n = (m : Int) /\ m < 256 := by
 have := bounds_u8 h
 exact ⟨n.toNat, by omega, by omega⟩
end
section
open Go.ChangeShapes Go.WideShapes Go.ChangeAt Go.RowKit
set_option maxRecDepth 20000 in
theorem bytes_open {H : Type} {enc : TypeId × Value -> H} {W : World} {r : Reach} {b0 base : Nat} {sp : Nat -> Bool} {held : Bool} {v : Value} {d : DataW H} {p : List MemPlace} (hv : Value.okWide Tryz.prog W r b0 22 v) (h : DataW.Trod enc Tryz.prog W base sp held 22 v d p) :
  ∃ l : List Nat, (∀ x ∈ l, x < 256) /\ Sl W (fun _ => True) 1 v l.length (Fj l) := by
 obtain ⟨a0, len0, cap0, rfl⟩ := okWide_slice Tryz.underlying22 hv
 obtain ⟨fuel, hf⟩ := h
 obtain ⟨v, n, xs, e, hs, he⟩ := sl_of_trod Tryz.underlying22 (size := 1) (by kernel_rfl) (by decide) hf
 have hl := hs.1
 have : ∃ zs : List Nat, (∀ x ∈ zs, x < 256) /\ xs = Fj zs := by
  have : ∀ v ∈ xs, ∃ z : Nat, z < 256 /\ v = .int .u8 (z : Nat) := by
   intro v hv
   obtain ⟨k, hk, hkv⟩ := List.mem_iff_getElem.1 hv
   obtain ⟨f', y, hy⟩ := he k (by omega)
   obtain ⟨z, hz, _, hw⟩ := DataW.trod_int Tryz.underlying5 hy
   obtain ⟨m, rfl, hm⟩ := u8_nat hw
   have h0 := congrArg (·[0]?) hz
   simp only [Nat.mul_one, List.getElem?_take_of_lt Nat.zero_lt_one, List.getElem?_drop, Nat.add_zero] at h0
   rw [List.getElem?_eq_getElem hk, hkv] at h0
   exact ⟨m, hm, by simpa using h0⟩
  clear hs he hl
  induction xs with
  | nil => exact ⟨[], fun x hx => by simp at hx, rfl⟩
  | cons a r ih =>
   obtain ⟨zs, hzs, rfl⟩ := ih fun v hv => this v (List.mem_cons_of_mem _ hv)
   obtain ⟨z, hz, rfl⟩ := this a List.mem_cons_self
   exact ⟨z :: zs, fun x hx => by rcases List.mem_cons.1 hx with rfl | hx; exact hz; exact hzs x hx, rfl⟩
 obtain ⟨zs, hzs, rfl⟩ := this
 have hz : zs.length = n := by simpa [Fj] using hl
 obtain rfl : v = .slice a0 len0 cap0 := by simpa [Value.cells] using e.symm
 exact ⟨zs, hzs, hz ▸ hs⟩
end
section
open Go.RowKit Go.ChangeShapes Go.WideShapes
theorem boxF_of_reads {w : World} {n : String} {g : Nat} {t e : TypeId} {m : Nat} {k : IntKind} {zs : List Int} (hg : Tryz.prog.globalNamed n = some g) (hty : (Tryz.prog.globals[g]?).map (·.type) = some t)
  (ht : Tryz.prog.underlying t = some (.array m e)) (he : Tryz.prog.underlying e = some (.int k)) (hce : Tryz.prog.cellsOf e = 1) (hct : Tryz.prog.cellsOf t = m) (h : Lib.VarReads Tryz.prog w n (Lib.tabData k zs)) :
  ∃ t, BoxF w g t (zs.map fun z => Value.int k z).toArray := by
 obtain ⟨g', t', cs, fuel, p, hg', hty', hvar, hd⟩ := h
 obtain rfl := Option.some.inj (hg.symm.trans hg')
 obtain rfl := Option.some.inj (hty.symm.trans hty')
 have hcs := Lib.cells_of_tab ht he hce hct hd
 simp only [World.var?, hg, Option.bind_some] at hvar
 split at hvar
 ·rename_i cs' t'' f heq
  obtain rfl := Option.some.inj hvar
  refine ⟨(t'', f), ?_⟩
  rw [<- hcs]
  exact heq
 ·cases hvar
end
section
open Go.RowKit Go.ChangeShapes Go.WideShapes
theorem dtab_of_reads {w : World} (h1 : Lib.VarReads Tryz.prog w "math/bits.deBruijn64tab" Rows.laid_math_bits_deBruijn64tab) : BM w := by
 have e1 : (Rows.laid_math_bits_deBruijn64tab : DataW Unit) = Lib.tabData .u8 (dbL.map fun x : Nat => (x : Int)) := by kernel_rfl
 rw [e1] at h1
 obtain ⟨t, b1⟩ := boxF_of_reads (g := 0) (by kernel_rfl) (t := 170) (by kernel_rfl) Tryz.underlying170 Tryz.underlying5 (by kernel_rfl) (by kernel_rfl) h1
 have e : (List.map (fun z => Value.int .u8 z) (dbL.map fun x : Nat => (x : Int))) = Fj dbL := by simp [Fj]
 rw [e] at b1
 intro q hq
 rw [b1.cell, List.getElem?_toArray]
 exact u8s_at _ _ hq
end
section
open Go.ChangeShapes Go.WideShapes Go.ChangeAt Go.RowKit
theorem GT (W : World) (h : laidMetH Tryz.prog Rows.forwardShortRow.laid W) : BM W := by
 have h' : laidMetH Tryz.prog [("math/bits.deBruijn64tab", Rows.laid_math_bits_deBruijn64tab)] W := h
 rw [MakeChecks.laidMetH_plain _ _ _ (by kernel_rfl)] at h'
 exact dtab_of_reads (Lib.laidMet.reads h' (.head _))
noncomputable def fshoStart (os : Os) : World := World.laidAll Tryz.prog os Rows.forwardShortRow.laid
theorem Ig (os : Os) (args : Array Value) : laidMetH Tryz.prog Rows.forwardShortRow.laid ((fshoStart os).forCall (fun _ _ => 0) ⟨#[], args, []⟩).memory := by
 rw [MakeChecks.laidMetH_plain _ _ _ (by kernel_rfl)]
 exact laidMet_laidAll _ (by kernel_rfl) (by kernel_rfl)
theorem fsho_own : ownKnob Tryz.prog.godebug = none := by kernel_rfl
theorem fsho_laidOut : laidOutB Tryz.prog = true := by kernel_rfl
set_option maxRecDepth 100000 in
theorem fsho_lifted (os : Os) (started : os.Started) (H : Type) (enc : TypeId × Value -> H) :
  ReturnsInHanded {} Tryz.checked os 5 .any (fun w args => (Rows.forwardShortSpec.pre enc Tryz.prog Tryz.f5 [] false w args /\ laidMetH Tryz.prog Rows.forwardShortRow.laid w) /\ sizedMet enc Tryz.prog Tryz.f5 (OpenSpec.ofChange Rows.forwardShortSpec) false w args)
   (Rows.forwardShortSpec.post enc Tryz.prog Tryz.f5 false true false false) := by
 refine returnsInHanded_of_change_and (C := Tryz.checked) (X := fun w _ => laidMetH Tryz.prog Rows.forwardShortRow.laid w) (fun _ _ _ hh h => h.of_heap hh) fsho_own started (by kernel_rfl) Tryz.func5
  (ChangeSpec.witness_shaped (enc := enc) (C := Tryz.checked) (os := os) (X := fun w _ => laidMetH Tryz.prog Rows.forwardShortRow.laid w) false (fshoStart os) #[.slice none 0 0] 8 (World.laidAll_os _ _ _) (World.shaped_of_ZipB (by kernel_rfl) (by kernel_rfl)) (by kernel_rfl) (by kernel_rfl) (by kernel_rfl) (Ig os _)) ?_
 intro W base args ds gs before hval0 hW _ _ hL _
 have hval : ∀ (j : Nat) t v, Tryz.f5.params[j]? = some t -> args[j]? = some v -> Value.okWide Tryz.prog W .any base t v := hval0
 have hW' := hW
 obtain ⟨p, q, hA0, hV, rfl, hfz, hnd⟩ := hW
 have hA : DataW.TrodAll enc Tryz.prog W 0 (fun _ => true) true Tryz.f5.params.toList args.toList ds p := hA0
 rw [Tryz.params5] at hA hval
 obtain ⟨v0, d0, rfl, rfl, h0⟩ := trodAll_one hA
 obtain ⟨rfl, rfl⟩ := trodVars_none hV
 obtain ⟨l, hl, hs⟩ := bytes_open (hval 0 _ v0 rfl rfl) h0
 have hT := GT W hL
 have lt : ∀ z ∈ p, z.block < W.heap.size := fun z hz => by simpa using hW'.lt z (by simpa using hz)
 refine (lfshort_any v0 l W _ hl hs hT).mono fun E W' he => ?_
 obtain ⟨r, rfl, rfl, hb⟩ := he
 refine ⟨_, rfl, _, _, _, [], p, [], hW', ?_, ?_, ?_, hb.frame _, fun h => by cases h⟩
 ·exact trodAll_mk1 (shut_bool Tryz.underlying4 true)
 ·rw [Tryz.params5]
  exact trodAll_mk1 (Below.trod fsho_laidOut (by kernel_rfl) (of_decide_eq_true (by kernel_rfl)) h0 hb fun z hz => lt z (hz))
 ·rfl
theorem fsho_holds : Rows.ForwardShortSaid :=
 OpenClaim.holds_of_wide 5 Tryz.f5 rfl rfl rfl rfl rfl rfl rfl ⟨rfl, rfl, rfl, rfl, rfl⟩ rfl rfl rfl rfl rfl (by kernel_rfl) Tryz.func5 (by kernel_rfl)
  (of_decide_eq_true (by kernel_rfl)) (by unfold Func.isWrapper; rw [if_neg (by decide +kernel)]; exact ⟨rfl, rfl⟩)
  (fun os started H enc _ => fsho_lifted os started H enc)
end
section
open Go
theorem fsho_card : Rows.ForwardShortCardSaid :=
 Claim7.holds_tied_plain_at .later [] [.data] true (true, "02775d1a799b58bb7332b1d57ac71e2e43109816e55cef64a44d674fc24bfe71") false
  fsho_holds (fun _ h => by cases h) (by kernel_rfl) (fun _ h => by cases h) forwardShort_row_tie rfl ⟨rfl, rfl⟩ (by kernel_rfl) rfl
  (fun f fn hf hfn => by
   obtain rfl : f = 5 := Option.some.inj ((show Tryz.prog.funcNamed "arbac/arbaclaw32.ForwardShort" = some 5 by kernel_rfl).symm.trans hf) |>.symm
   obtain rfl : fn = Tryz.f5 := (Option.some.inj (Tryz.func5.symm.trans hfn)).symm
   exact ⟨by kernel_rfl, fun j t ht => by
    rw [Tryz.params5] at ht
    have h3 : t = 22 := by
     rcases j with _ | j
     ·simp at ht; simp [<- ht]
     ·simp at ht
    rcases h3 with rfl
    ·exact (show Tryz.prog.wantsStandIn 22 = false by kernel_rfl)⟩)
  (by kernel_rfl)
end
end Go.Proofs.YtpcioefppjljoaaGreatDoor
namespace Go.Proofs.YtpcioefppjljoaaGreatDoor
#print axioms fsho_card
end Go.Proofs.YtpcioefppjljoaaGreatDoor
