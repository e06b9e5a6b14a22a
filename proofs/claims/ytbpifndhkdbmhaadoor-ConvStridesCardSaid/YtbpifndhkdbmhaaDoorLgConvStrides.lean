/-
  What the program's functions come to, in plain words.
-/
import Derived.Test.YtbpifndhkdbmhaaDoorLgConvW
namespace Go.Proofs.YtbpifndhkdbmhaaDoor.Lg
open Go Go.Eng Go.Proofs

/-- the places of a stride are those without one -/
theorem stride_core (A K : List Int) (za : Int) (h w c kh kw n s p ow ow' i j : Nat) (ho : i % n = j % n) (hy : i / n / ow' * s = j / n / ow) (hx : i / n % ow' * s = j / n % ow) :
    cvC A K za h w c kh kw n s p ow' i = cvC A K za h w c kh kw n 1 p ow j := by
  unfold cvC cvS
  rw [ho]
  congr 1
  refine sumN_congr' fun dy _ => sumN_congr' fun dx _ => ?_
  unfold cvT
  rw [hy, hx, Nat.mul_one, Nat.mul_one]

theorem place_of {a b t m n : Nat} (hb : b < m) (ht : t < n) : ((a * m + b) * n + t) % n = t ∧ ((a * m + b) * n + t) / n / m = a ∧ ((a * m + b) * n + t) / n % m = b := by
  have h1 : ((a * m + b) * n + t) / n = a * m + b := by
    rw [Nat.mul_comm, Nat.mul_add_div (by omega), Nat.div_eq_of_lt ht]
    omega
  rw [h1]
  refine ⟨?_, ?_, ?_⟩
  · rw [Nat.mul_comm, Nat.mul_add_mod]
    exact Nat.mod_eq_of_lt ht
  · rw [Nat.mul_comm, Nat.mul_add_div (by omega), Nat.div_eq_of_lt hb]
    omega
  · rw [Nat.mul_comm, Nat.mul_add_mod]
    exact Nat.mod_eq_of_lt hb

theorem loop_Strides (N : Nat) {a r : T} {s p oh ow oh' ow' : Nat} (hs : 1 ≤ s ∧ s ≤ 4) {R U : List Int} (hR : R.length = oh * ow * 2) (hU : U.length = oh' * ow' * 2) (bo : oh ≤ 16 ∧ ow ≤ 16 ∧ oh' ≤ 16) (bo' : 1 ≤ ow' ∧ ow' ≤ 16)
    (hy : ∀ y, y < oh' → y * s < oh) (hx : ∀ x, x < ow' → x * s < ow)
    (hall : ∀ i j, i < U.length → i % 2 = j % 2 → i / 2 / ow' * s = j / 2 / ow → i / 2 % ow' * s = j / 2 % ow → j < R.length → U.getD i 0 = R.getD j 0)
    (hcell : ∀ i : Nat, i < U.length → F_conv_Cell N a r i [(s : Int), (p : Int), 1] = some (U.getD i 0, ())) (wt wu : Bool) (n1 n2 : Int) : ∀ (cnt i : Nat), i ≤ U.length → U.length < cnt + i →
    g_lodgelaw9_ConvStrides_0 N cnt s p (a, ()) (r, ()) (boxT [(oh : Int), (ow : Int), n1] wt R) (boxT [(oh' : Int), (ow' : Int), n2] wu U) i
      = some (.inl ((s : Int), (boxT [(oh : Int), (ow : Int), n1] wt R, (boxT [(oh' : Int), (ow' : Int), n2] wu U, ()))))
  | 0, i, h, h' => by omega
  | cnt + 1, i, h, h' => by
    rw [g_lodgelaw9_ConvStrides_0]
    by_cases hi : i < U.length
    · have ih := loop_Strides N hs hR hU bo bo' hy hx hall hcell wt wu n1 n2 cnt (i + 1) hi (by omega)
      have hUb : oh' * ow' ≤ 16 * 16 := mul_small (by omega) (by omega)
      have hd1 : i / 2 / ow' < oh' := by
        rw [Nat.div_lt_iff_lt_mul (by omega)]
        omega
      have hm1 : i / 2 % ow' < ow' := Nat.mod_lt _ (by omega)
      have hy1 := hy _ hd1
      have hx1 := hx _ hm1
      have ht : i % 2 < 2 := Nat.mod_lt _ (by omega)
      have hpl := place_of (a := i / 2 / ow' * s) (b := i / 2 % ow' * s) (t := i % 2) (m := ow) (n := 2) hx1 ht
      have hin := three_idx hy1 hx1 ht
      have hRb : oh * ow * 2 ≤ 16 * 16 * 2 := Nat.mul_le_mul_right _ (mul_small (by omega) (by omega))
      have hr := hall i ((i / 2 / ow' * s * ow + i / 2 % ow' * s) * 2 + i % 2) hi hpl.1.symm hpl.2.1.symm hpl.2.2.symm (by omega)
      have hc := hcell i hi
      have e2 : (2 : Int) = ((2 : Nat) : Int) := rfl
      have g1 : List.getD [(oh' : Int), (ow' : Int), n2] 1 0 = (ow' : Int) := rfl
      have g2 : List.getD [(oh : Int), (ow : Int), n1] 1 0 = (ow : Int) := rfl
      simp only [g1, g2, wi64_tdiv (show i ≤ 1000000 by omega), wi64_tdiv (show i / 2 ≤ 1000000 by omega), tmod_nat, e2]
      have k1 : wi64 (wi64 (wi64 (wi64 (wi64 (((i / 2 / ow' : Nat) : Int) * (s : Int)) * (ow : Int)) + wi64 (((i / 2 % ow' : Nat) : Int) * (s : Int))) * ((2 : Nat) : Int)) + ((i % 2 : Nat) : Int)) = (((i / 2 / ow' * s * ow + i / 2 % ow' * s) * 2 + i % 2 : Nat) : Int) := by
        have q1 : i / 2 / ow' * s * ow + i / 2 % ow' * s ≤ (i / 2 / ow' * s * ow + i / 2 % ow' * s) * 2 := by omega
        rw [wi64_mul (by omega), wi64_mul (i := i / 2 % ow') (by omega), wi64_row (by omega), wi64_row (by omega)]
      simp only [k1, Int.toNat_natCast, Nat.zero_add]
      generalize (i / 2 / ow' * s * ow + i / 2 % ow' * s) * 2 + i % 2 = j at *
      refine cT (by omega) ?_
      refine cT (by simp) ?_
      refine cT (by omega) ?_
      refine cT (by simp) ?_
      refine cT (by omega) ?_
      refine cT (by omega) ?_
      refine cT hi ?_
      refine cT hi ?_
      refine cT (by simp) ?_
      refine cT (by omega) ?_
      refine cT (by omega) ?_
      refine cT (by omega) ?_
      refine cF (by simpa using hr) ?_
      refine bnd _ hc ?_
      refine cT (by omega) ?_
      refine cT hi ?_
      refine cT hi ?_
      refine cF (by simp) ?_
      refine cT trivial ?_
      refine cT trivial ?_
      rw [wi64_succ (by omega)]
      exact ih
    · refine cF (by simpa using hi) ?_
      refine cT rfl ?_
      exact cT rfl rfl

theorem ConvStrides_law (h w k stride pad : Int) (l : List Int) : F_lodgelaw9_ConvStrides 100000 h w k stride pad l = some (true, ()) := by
  have hN : 20000 ≤ 100000 := by omega
  obtain ⟨H, hH, eH⟩ := Number_nat (N := 100000) h 7 (by omega) (by omega)
  obtain ⟨W, hW, eW⟩ := Number_nat (N := 100000) w 7 (by omega) (by omega)
  obtain ⟨K, hK, eK⟩ := Number_nat (N := 100000) k (min (H + 1) (W + 1)) (by omega) (by omega)
  obtain ⟨S, hS, eS⟩ := Number_nat (N := 100000) stride 4 (by omega) (by omega)
  obtain ⟨P, hP, eP⟩ := Number_nat (N := 100000) pad 3 (by omega) (by omega)
  have sH : wi64 ((H : Int) + 1) = ((H + 1 : Nat) : Int) := wi64_succ (by omega)
  have sW : wi64 ((W : Int) + 1) = ((W + 1 : Nat) : Int) := wi64_succ (by omega)
  have sK : wi64 ((K : Int) + 1) = ((K + 1 : Nat) : Int) := wi64_succ (by omega)
  have sS : wi64 ((S : Int) + 1) = ((S + 1 : Nat) : Int) := wi64_succ (by omega)
  have sm : imin ((H + 1 : Nat) : Int) ((W + 1 : Nat) : Int) = ((min (H + 1) (W + 1) : Nat) : Int) := by
    rw [imin_eq]
    omega
  have p1 : (H + 1) * (W + 1) ≤ 7 * 7 := mul_small (by omega) (by omega)
  have p2 : (K + 1) * (K + 1) ≤ 7 * 7 := mul_small (by omega) (by omega)
  unfold F_lodgelaw9_ConvStrides
  refine bnd _ first_100' ?_
  refine bF rfl ?_
  by_cases hl : l.length ≤ 30
  case neg => exact cT (by omega) rfl
  refine cF (by omega) ?_
  refine bF rfl ?_
  refine bnd _ eH ?_
  refine bnd _ eW ?_
  simp only [sH, sW, sm]
  refine bnd _ eK ?_
  refine bnd _ eS ?_
  refine bnd _ eP ?_
  simp only [sK, sS]
  refine bnd _ (tensor_three hN (a := H + 1) (b := W + 1) (c := 2) l (by omega) (by omega) (by omega) (by omega)) ?_
  refine bnd _ (lodgeref_Ints_spec l (by omega) (by omega)) ?_
  refine cT (by simp) ?_
  refine cT (show (l.length + 1) * (8 + 1) ≤ most by unfold most; omega) ?_
  refine cT (by simp) ?_
  rw [take_one_more]
  refine bnd _ (tensor_four hN (a := K + 1) (b := K + 1) (c := 2) (d := 2) (l ++ [3]) (by omega) (by omega) (by omega) (by omega) (by omega)) ?_
  have fA := tenD_in l ((H + 1) * (W + 1) * 2)
  have lA := tenD_length l ((H + 1) * (W + 1) * 2)
  have fK := tenD_in (l ++ [3]) ((K + 1) * (K + 1) * 2 * 2)
  have lK := tenD_length (l ++ [3]) ((K + 1) * (K + 1) * 2 * 2)
  generalize tenD l ((H + 1) * (W + 1) * 2) = AA at *
  generalize tenD (l ++ [3]) ((K + 1) * (K + 1) * 2 * 2) = KK at *
  refine cT (by simp) ?_
  refine cT (by simp) ?_
  simp only [List.take_length]
  obtain ⟨oh, eoh⟩ : ∃ oh, oh = H + 1 + 2 * P - (K + 1) + 1 := ⟨_, rfl⟩
  obtain ⟨ow, eow⟩ : ∃ ow, ow = W + 1 + 2 * P - (K + 1) + 1 := ⟨_, rfl⟩
  obtain ⟨oh', eoh'⟩ : ∃ oh', oh' = (H + 1 + 2 * P - (K + 1)) / (S + 1) + 1 := ⟨_, rfl⟩
  obtain ⟨ow', eow'⟩ : ∃ ow', ow' = (W + 1 + 2 * P - (K + 1)) / (S + 1) + 1 := ⟨_, rfl⟩
  have d1 : (H + 1 + 2 * P - (K + 1)) / (S + 1) ≤ H + 1 + 2 * P - (K + 1) := Nat.div_le_self _ _
  have d2 : (W + 1 + 2 * P - (K + 1)) / (S + 1) ≤ W + 1 + 2 * P - (K + 1) := Nat.div_le_self _ _
  have o1 : 1 ≤ oh' := by rw [eoh']; exact Nat.le_add_left 1 _
  have o2 : 1 ≤ ow' := by rw [eow']; exact Nat.le_add_left 1 _
  have b1 : oh * ow ≤ 16 * 16 := mul_small (by omega) (by omega)
  have b2 : oh' * ow' ≤ 16 * 16 := mul_small (by omega) (by omega)
  have hgood := (conv_good hN (A := AA) (K := KK) (za := 1)
    (h := H + 1) (w := W + 1) (c := 2) (kh := K + 1) (kw := K + 1) (n := 2) (s := 1) (p := P) (by omega) (by omega) (by omega) (by omega) (by omega) (by omega) (by omega) (by omega)
    lA lK (by omega) (by omega) fA fK (by omega) (by omega) (by omega) (oh := oh) (ow := ow) (by rw [Nat.div_one]; exact eoh) (by rw [Nat.div_one]; exact eow) (by omega) (by omega) (by omega)).1
  obtain ⟨hgood2, hcell⟩ := (conv_good hN (A := AA) (K := KK) (za := 1)
    (h := H + 1) (w := W + 1) (c := 2) (kh := K + 1) (kw := K + 1) (n := 2) (s := S + 1) (p := P) (by omega) (by omega) (by omega) (by omega) (by omega) (by omega) (by omega) (by omega)
    lA lK (by omega) (by omega) fA fK (by omega) (by omega) (by omega) (oh := oh') (ow := ow') eoh' eow' (by omega) (by omega) (by omega))
  refine bnd _ hgood ?_
  refine cT (by simp) ?_
  refine cT (by simp) ?_
  refine bnd _ hgood2 ?_
  refine bF rfl ?_
  refine bF rfl ?_
  refine cT (by simp) ?_
  refine cT (by simp) ?_
  refine cT (by simp) ?_
  refine cT (by simp) ?_
  refine cT (by simp) ?_
  refine cT (by simp) ?_
  have lR := cvL_length AA KK 1 (H + 1) (W + 1) 2 (K + 1) (K + 1) 2 1 P oh ow
  have lU := cvL_length AA KK 1 (H + 1) (W + 1) 2 (K + 1) (K + 1) 2 (S + 1) P oh' ow'
  have m1 : ∀ q n, q < n / (S + 1) + 1 → q * (S + 1) < n + 1 := by
    intro q n hq
    have h1 : q * (S + 1) ≤ n / (S + 1) * (S + 1) := Nat.mul_le_mul_right _ (by omega)
    have h2 := Nat.div_mul_le_self n (S + 1)
    omega
  have h0 := loop_Strides 100000 (a := (([((H + 1 : Nat) : Int), ((W + 1 : Nat) : Int), ((2 : Nat) : Int)], false), AA)) (r := (([((K + 1 : Nat) : Int), ((K + 1 : Nat) : Int), ((2 : Nat) : Int), ((2 : Nat) : Int)], false), KK)) (s := S + 1) (p := P) (oh := oh) (ow := ow) (oh' := oh') (ow' := ow') (by omega) lR lU (by omega) (by omega)
    (fun y hy => by rw [eoh]; exact m1 y _ (by rw [← eoh']; exact hy)) (fun x hx => by rw [eow]; exact m1 x _ (by rw [← eow']; exact hx))
    (fun i j hi q1 q2 q3 hj => by
      rw [lU] at hi
      rw [lR] at hj
      rw [cvL_getD hi, cvL_getD hj]
      exact stride_core _ _ _ _ _ _ _ _ _ _ _ _ _ _ _ q1 q2 q3)
    (fun i hi => by
      rw [lU] at hi
      refine (hcell i).trans ?_
      rw [if_pos (by omega), cvL_getD hi, Int.toNat_natCast])
    true true 2 2 100000 0 (by omega) (by omega)
  refine bnd _ h0 ?_
  simp only [Sum.elim_inl, List.getD_cons_zero]
  refine cT (by simp) ?_
  refine cT (by simp) ?_
  refine cT (by omega) ?_
  have e1 : wi64 ((oh : Int) - 1) = ((oh - 1 : Nat) : Int) := by
    rw [wi64_in (by omega) (by omega)]
    omega
  rw [e1, wi64_tdiv (by omega), show oh - 1 = H + 1 + 2 * P - (K + 1) by omega]
  have e3 : wi64 (((((H + 1 + 2 * P - (K + 1)) / (S + 1) : Nat) : Int)) + 1) = (oh' : Int) := by
    rw [wi64_in (by omega) (by omega), eoh']
    omega
  rw [e3]
  simp

theorem ConvStrides_row {N : Nat} (hN : N = 100000) (x : Val (rowTy ps_lodgelaw9_ConvStrides)) (_ : FitsL ps_lodgelaw9_ConvStrides x) : (c_lodgelaw9_ConvStrides N).g x = some (true, ()) := by
  subst hN
  exact ConvStrides_law _ _ _ _ _ _

end Go.Proofs.YtbpifndhkdbmhaaDoor.Lg
