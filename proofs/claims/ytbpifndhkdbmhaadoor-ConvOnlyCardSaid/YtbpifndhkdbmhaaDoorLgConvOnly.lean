/-
  What the program's functions come to, in plain words.
-/
import Derived.Test.YtbpifndhkdbmhaaDoorLgConvW
namespace Go.Proofs.YtbpifndhkdbmhaaDoor.Lg
open Go Go.Eng Go.Proofs

/-- what an element is, where one place alone is not nothing -/
def onlyW (K : List Int) (k ow y x : Nat) (v : Int) (i : Nat) : Int :=
  if i / ow ≤ y ∧ i % ow ≤ x ∧ y < i / ow + k ∧ x < i % ow + k then v * K.getD ((y - i / ow) * k + (x - i % ow)) 0 else 0

theorem only_core {K : List Int} {h w k y x : Nat} {v : Int} (hkh : k ≤ h) (hkw : k ≤ w) (hy : y < h) (hx : x < w) (fK : ∀ p, -128 ≤ K.getD p 0 ∧ K.getD p 0 ≤ 127) (hv : 1 ≤ v ∧ v ≤ 100) {i : Nat} (hi : i < (h - k + 1) * (w - k + 1) * 1) :
    cvC ((List.replicate (h * w * 1) 0).set (y * w + x) v) K 0 h w 1 k k 1 1 0 (w - k + 1) i = onlyW K k (w - k + 1) y x v i := by
  unfold cvC onlyW
  rw [Nat.div_one, Nat.mod_one]
  have ha : i / (w - k + 1) < h - k + 1 := by
    rw [Nat.div_lt_iff_lt_mul (by omega)]
    omega
  have hb : i % (w - k + 1) < w - k + 1 := Nat.mod_lt _ (by omega)
  generalize i / (w - k + 1) = a at *
  generalize i % (w - k + 1) = b at *
  have hlen : y * w + x < h * w * 1 := by
    have : (y + 1) * w ≤ h * w := Nat.mul_le_mul_right w hy
    rw [Nat.add_mul] at this
    omega
  have hT : ∀ dy dx, dy < k → dx < k → cvT ((List.replicate (h * w * 1) 0).set (y * w + x) v) K 0 h w 1 k 1 1 0 a b 0 dy dx = if a + dy = y ∧ b + dx = x then v * K.getD (dy * k + dx) 0 else 0 := by
    intro dy dx hdy hdx
    unfold cvT
    rw [if_pos (by omega)]
    unfold sumN
    unfold sumN cvP
    rw [show ((a * 1 + dy - 0) * w + (b * 1 + dx - 0)) * 1 + 0 = (a + dy) * w + (b + dx) by rw [Nat.mul_one a, Nat.mul_one b, Nat.sub_zero, Nat.sub_zero, Nat.mul_one]; rfl, show ((dy * k + dx) * 1 + 0) * 1 + 0 = dy * k + dx by omega]
    have hget : ((List.replicate (h * w * 1) 0).set (y * w + x) v).getD ((a + dy) * w + (b + dx)) 0 = if a + dy = y ∧ b + dx = x then v else 0 := by
      have hin : (a + dy) * w + (b + dx) < h * w * 1 := by
        have : (a + dy + 1) * w ≤ h * w := Nat.mul_le_mul_right w (by omega)
        rw [Nat.add_mul] at this
        omega
      rw [getD_lt (by simpa using hin), List.getElem_set]
      by_cases he : a + dy = y ∧ b + dx = x
      · rw [if_pos he, if_pos (by rw [he.1, he.2])]
      · rw [if_neg he, if_neg, List.getElem_replicate]
        intro e
        apply he
        have e1 : (y * w + x) / w = y := by rw [Nat.mul_comm, Nat.mul_add_div (by omega), Nat.div_eq_of_lt hx]; omega
        have e2 : ((a + dy) * w + (b + dx)) / w = a + dy := by rw [Nat.mul_comm, Nat.mul_add_div (by omega), Nat.div_eq_of_lt (by omega)]; omega
        rw [e, e2] at e1
        subst e1
        omega
    rw [hget]
    split <;> simp
  by_cases hin : a ≤ y ∧ b ≤ x ∧ y < a + k ∧ x < b + k
  · rw [if_pos hin]
    have hsum : cvS ((List.replicate (h * w * 1) 0).set (y * w + x) v) K 0 h w 1 k k 1 1 0 a b 0 = v * K.getD ((y - a) * k + (x - b)) 0 := by
      unfold cvS
      rw [sumN_single (j := y - a) (by omega) fun dy hdy hne => sumN_zero fun dx hdx => by rw [hT dy dx hdy hdx, if_neg (by omega)]]
      rw [sumN_single (j := x - b) (by omega) fun dx hdx hne => by rw [hT _ dx (by omega) hdx, if_neg (by omega)]]
      rw [hT _ _ (by omega) (by omega), if_pos (by omega)]
    have hf := fK ((y - a) * k + (x - b))
    have := mul_abs (a := v) (b := K.getD ((y - a) * k + (x - b)) 0) (A := 100) (B := 128) (by omega) (by omega) (by omega) (by omega)
    rw [hsum, round32_in (by omega) (by omega)]
  · rw [if_neg hin]
    have hsum : cvS ((List.replicate (h * w * 1) 0).set (y * w + x) v) K 0 h w 1 k k 1 1 0 a b 0 = 0 := by
      unfold cvS
      exact sumN_zero fun dy hdy => sumN_zero fun dx hdx => by rw [hT dy dx hdy hdx, if_neg (by omega)]
    rw [hsum]
    rfl

theorem loop_Only (N : Nat) {w k y x : Nat} {v : Int} (hk : 1 ≤ k ∧ k ≤ 6) (hkw : k ≤ w) (hw : w ≤ 6) (hy : y ≤ 6) (hx : x ≤ 6) (hv : 1 ≤ v ∧ v ≤ 100) {K R : List Int} (fK : ∀ p, -128 ≤ K.getD p 0 ∧ K.getD p 0 ≤ 127) (hK : K.length = k * k * 1 * 1) (hR : R.length ≤ 1000)
    (hall : ∀ i, i < R.length → R.getD i 0 = onlyW K k (w - k + 1) y x v i) (ks sh : List Int) (kw ws : Bool) : ∀ (cnt i : Nat), i ≤ R.length → R.length < cnt + i →
    g_lodgelaw9_ConvOnly_0 N cnt w k y x v (((ks, kw), K), ()) (boxT sh ws R) i = some (.inl ())
  | 0, i, h, h' => by omega
  | cnt + 1, i, h, h' => by
    rw [g_lodgelaw9_ConvOnly_0]
    by_cases hi : i < R.length
    · have hw1 : wi64 (wi64 ((w : Int) - k) + 1) = ((w - k + 1 : Nat) : Int) := by
        rw [wi64_in (n := (w : Int) - k) (by omega) (by omega), wi64_in (by omega) (by omega)]
        omega
      have hd1 : i / (w - k + 1) ≤ i := Nat.div_le_self _ _
      have hm1 : i % (w - k + 1) < w - k + 1 := Nat.mod_lt _ (by omega)
      have hr := hall i hi
      have ih := loop_Only N hk hkw hw hy hx hv fK hK hR hall ks sh kw ws cnt (i + 1) hi (by omega)
      simp only [hw1, wi64_tdiv (show i ≤ 1000000 by omega), tmod_nat]
      unfold onlyW at hr
      generalize i / (w - k + 1) = a at *
      generalize i % (w - k + 1) = b at *
      have ea : wi64 ((y : Int) - a) = (y : Int) - a := wi64_in (by omega) (by omega)
      have eb : wi64 ((x : Int) - b) = (x : Int) - b := wi64_in (by omega) (by omega)
      simp only [ea, eb, wi64_succ (show i < 9223372036854775807 by omega)]
      refine cT (by simpa using hi) ?_
      refine cT (by omega) ?_
      refine cT (by omega) ?_
      have tail : ∀ (r : Int) (q : Bool), R.getD i 0 = r → q = true → (cond (decide ((0 : Int) ≤ (i : Int))) (cond (decide (Int.toNat (i : Int) < R.length)) (cond (decide (0 + Int.toNat (i : Int) < R.length)) (cond (decide (@Ne Int (R.getD (0 + Int.toNat (i : Int)) 0) r)) (some (Sum.inr (false, ()))) (cond q (g_lodgelaw9_ConvOnly_0 N cnt w k y x v (((ks, kw), K), ()) (boxT sh ws R) ((i + 1 : Nat) : Int)) none)) none) none) none : Option (Sum Unit (Bool × Unit))) = some (.inl ()) := by
        intro r q hr hq
        rw [Int.toNat_natCast, Nat.zero_add]
        refine cT (by omega) ?_
        refine cT hi ?_
        refine cT hi ?_
        refine cF (by simpa using hr) ?_
        exact bT hq ih
      by_cases g1 : a ≤ y
      case neg =>
        rw [if_neg (by omega)] at hr
        refine cF (by omega) ?_
        exact tail 0 _ hr (decide_eq_true trivial)
      refine cT (by omega) ?_
      by_cases g2 : b ≤ x
      case neg =>
        rw [if_neg (by omega)] at hr
        refine cF (by omega) ?_
        exact tail 0 _ hr (decide_eq_true trivial)
      refine cT (by omega) ?_
      by_cases g3 : y < a + k
      case neg =>
        rw [if_neg (by omega)] at hr
        refine cF (by omega) ?_
        exact tail 0 _ hr (decide_eq_true trivial)
      refine cT (by omega) ?_
      by_cases g4 : x < b + k
      case neg =>
        rw [if_neg (by omega)] at hr
        refine cF (by omega) ?_
        exact tail 0 _ hr (decide_eq_true trivial)
      refine cT (by omega) ?_
      rw [if_pos ⟨g1, g2, g3, g4⟩] at hr
      have hbd : (y - a) * k + (x - b) < k * k := by
        have : (y - a + 1) * k ≤ k * k := Nat.mul_le_mul_right k (by omega)
        rw [Nat.add_mul] at this
        omega
      have hkk : k * k ≤ 6 * 6 := Nat.mul_le_mul hk.2 hk.2
      have ei : wi64 (wi64 (((y : Int) - a) * k) + ((x : Int) - b)) = (((y - a) * k + (x - b) : Nat) : Int) := by
        rw [show (y : Int) - a = ((y - a : Nat) : Int) by omega, show (x : Int) - b = ((x - b : Nat) : Int) by omega]
        exact wi64_row (by omega)
      have hf := fK ((y - a) * k + (x - b))
      have hm := mul_abs (a := v) (b := K.getD ((y - a) * k + (x - b)) 0) (A := 100) (B := 128) (by omega) (by omega) (by omega) (by omega)
      have ev : wi64 (v * K.getD ((y - a) * k + (x - b)) 0) = v * K.getD ((y - a) * k + (x - b)) 0 := wi64_in (by omega) (by omega)
      simp only [ei, Int.toNat_natCast, ev]
      refine cT (by omega) ?_
      refine cT (by rw [hK]; omega) ?_
      exact tail _ _ hr (decide_eq_true trivial)
    · refine cF (by simpa using hi) rfl

theorem ConvOnly_law (h w k y x v : Int) (l : List Int) : F_lodgelaw9_ConvOnly 100000 h w k y x v l = some (true, ()) := by
  have hN : 20000 ≤ 100000 := by omega
  obtain ⟨H, hH, eH⟩ := Number_nat (N := 100000) h 6 (by omega) (by omega)
  obtain ⟨W, hW, eW⟩ := Number_nat (N := 100000) w 6 (by omega) (by omega)
  obtain ⟨K, hK, eK⟩ := Number_nat (N := 100000) k (min (H + 1) (W + 1)) (by omega) (by omega)
  obtain ⟨Y, hY, eY⟩ := Number_nat (N := 100000) y (H + 1) (by omega) (by omega)
  obtain ⟨X, hX, eX⟩ := Number_nat (N := 100000) x (W + 1) (by omega) (by omega)
  obtain ⟨V, hV, eV⟩ := Number_nat (N := 100000) v 100 (by omega) (by omega)
  have sH : wi64 ((H : Int) + 1) = ((H + 1 : Nat) : Int) := wi64_succ (by omega)
  have sW : wi64 ((W : Int) + 1) = ((W + 1 : Nat) : Int) := wi64_succ (by omega)
  have sK : wi64 ((K : Int) + 1) = ((K + 1 : Nat) : Int) := wi64_succ (by omega)
  have sV : wi64 ((V : Int) + 1) = ((V + 1 : Nat) : Int) := wi64_succ (by omega)
  have sm : imin ((H + 1 : Nat) : Int) ((W + 1 : Nat) : Int) = ((min (H + 1) (W + 1) : Nat) : Int) := by
    rw [imin_eq]
    omega
  have p1 : (H + 1) * (W + 1) ≤ 6 * 6 := mul_small (by omega) (by omega)
  have p2 : (K + 1) * (K + 1) ≤ 6 * 6 := mul_small (by omega) (by omega)
  have p3 : (H + 1 - (K + 1) + 1) * (W + 1 - (K + 1) + 1) ≤ 6 * 6 := mul_small (by omega) (by omega)
  have p4 : Y * (W + 1) + X < (H + 1) * (W + 1) := by
    have : (Y + 1) * (W + 1) ≤ (H + 1) * (W + 1) := Nat.mul_le_mul_right _ (by omega)
    rw [Nat.add_mul Y 1] at this
    omega
  unfold F_lodgelaw9_ConvOnly
  refine bnd _ first_100' ?_
  refine bF rfl ?_
  by_cases hl : l.length ≤ 30
  case neg => exact cT (by omega) rfl
  refine cF (by omega) ?_
  refine bF rfl ?_
  refine bnd _ eH ?_
  refine bnd _ eW ?_
  simp only [sH, sW, sm]
  refine bnd _ eK ?_
  refine bnd _ eY ?_
  refine bnd _ eX ?_
  refine bnd _ eV ?_
  simp only [sK, sV]
  refine bnd _ (tensor_three hN (a := H + 1) (b := W + 1) (c := 1) [] (by omega) (by omega) (by omega) (by omega)) ?_
  rw [wi64_row (i := Y) (k := W + 1) (x := X) (by omega), tenD_nil]
  simp only [Int.toNat_natCast, Nat.zero_add]
  refine cT (by omega) ?_
  refine cT (by rw [List.length_replicate]; omega) ?_
  refine cT (by rw [List.length_replicate]; omega) ?_
  refine bnd _ (lodgeref_Ints_spec l (by omega) (by omega)) ?_
  refine cT trivial ?_
  refine cT (show (l.length + 1) * (8 + 1) ≤ most by unfold most; omega) ?_
  refine cT (by simp) ?_
  rw [take_one_more]
  refine bnd _ (tensor_four hN (a := K + 1) (b := K + 1) (c := 1) (d := 1) (l ++ [3]) (by omega) (by omega) (by omega) (by omega) (by omega)) ?_
  refine cT (by rw [List.length_set]; exact Nat.le_refl _) ?_
  refine cT (Nat.le_refl _) ?_
  have fK := tenD_in (l ++ [3]) ((K + 1) * (K + 1) * 1 * 1)
  have lK := tenD_length (l ++ [3]) ((K + 1) * (K + 1) * 1 * 1)
  have tk : List.take (List.length (List.replicate ((H + 1) * (W + 1) * 1) (0 : Int))) (List.set (List.replicate ((H + 1) * (W + 1) * 1) (0 : Int)) (Y * (W + 1) + X) ((V + 1 : Nat) : Int)) = List.set (List.replicate ((H + 1) * (W + 1) * 1) (0 : Int)) (Y * (W + 1) + X) ((V + 1 : Nat) : Int) := List.take_of_length_le (by rw [List.length_set]; exact Nat.le_refl _)
  rw [List.take_length, tk]
  have hgood := (conv_good hN (A := List.set (List.replicate ((H + 1) * (W + 1) * 1) (0 : Int)) (Y * (W + 1) + X) ((V + 1 : Nat) : Int)) (K := tenD (l ++ [3]) ((K + 1) * (K + 1) * 1 * 1)) (za := 0)
    (h := H + 1) (w := W + 1) (c := 1) (kh := K + 1) (kw := K + 1) (n := 1) (s := 1) (p := 0) (by omega) (by omega) (by omega) (by omega) (by omega) (by omega) (by omega) (by omega)
    (by rw [List.length_set, List.length_replicate]) lK (by omega) (by omega)
    (fun z hz => by
      rcases List.mem_or_eq_of_mem_set hz with hz | hz
      · have := List.eq_of_mem_replicate hz
        omega
      · omega) fK (by omega) (by omega) (by omega) (oh := H + 1 - (K + 1) + 1) (ow := W + 1 - (K + 1) + 1) (by rw [Nat.div_one]) (by rw [Nat.div_one]) (by omega) (by omega) (by omega)).1
  refine bnd _ hgood ?_
  refine bF rfl ?_
  have o1 : wi64 (wi64 (((H + 1 : Nat) : Int) - ((K + 1 : Nat) : Int)) + 1) = ((H + 1 - (K + 1) + 1 : Nat) : Int) := by
    rw [wi64_in (n := ((H + 1 : Nat) : Int) - ((K + 1 : Nat) : Int)) (by omega) (by omega), wi64_in (by omega) (by omega)]
    omega
  have o2 : wi64 (wi64 (((W + 1 : Nat) : Int) - ((K + 1 : Nat) : Int)) + 1) = ((W + 1 - (K + 1) + 1 : Nat) : Int) := by
    rw [wi64_in (n := ((W + 1 : Nat) : Int) - ((K + 1 : Nat) : Int)) (by omega) (by omega), wi64_in (by omega) (by omega)]
    omega
  rw [o1, o2, wi64_mul (by omega)]
  have lC := cvL_length (List.set (List.replicate ((H + 1) * (W + 1) * 1) (0 : Int)) (Y * (W + 1) + X) ((V + 1 : Nat) : Int)) (tenD (l ++ [3]) ((K + 1) * (K + 1) * 1 * 1)) 0 (H + 1) (W + 1) 1 (K + 1) (K + 1) 1 1 0 (H + 1 - (K + 1) + 1) (W + 1 - (K + 1) + 1)
  have hC : ∀ i, i < (cvL (List.set (List.replicate ((H + 1) * (W + 1) * 1) (0 : Int)) (Y * (W + 1) + X) ((V + 1 : Nat) : Int)) (tenD (l ++ [3]) ((K + 1) * (K + 1) * 1 * 1)) 0 (H + 1) (W + 1) 1 (K + 1) (K + 1) 1 1 0 (H + 1 - (K + 1) + 1) (W + 1 - (K + 1) + 1)).length →
      (cvL (List.set (List.replicate ((H + 1) * (W + 1) * 1) (0 : Int)) (Y * (W + 1) + X) ((V + 1 : Nat) : Int)) (tenD (l ++ [3]) ((K + 1) * (K + 1) * 1 * 1)) 0 (H + 1) (W + 1) 1 (K + 1) (K + 1) 1 1 0 (H + 1 - (K + 1) + 1) (W + 1 - (K + 1) + 1)).getD i 0 = onlyW (tenD (l ++ [3]) ((K + 1) * (K + 1) * 1 * 1)) (K + 1) (W + 1 - (K + 1) + 1) Y X ((V + 1 : Nat) : Int) i := by
    intro i hi
    rw [lC] at hi
    rw [cvL_getD hi]
    exact only_core (by omega) (by omega) hY hX (getD_in fK) (by omega) hi
  generalize cvL (List.set (List.replicate ((H + 1) * (W + 1) * 1) (0 : Int)) (Y * (W + 1) + X) ((V + 1 : Nat) : Int)) (tenD (l ++ [3]) ((K + 1) * (K + 1) * 1 * 1)) 0 (H + 1) (W + 1) 1 (K + 1) (K + 1) 1 1 0 (H + 1 - (K + 1) + 1) (W + 1 - (K + 1) + 1) = R at *
  generalize tenD (l ++ [3]) ((K + 1) * (K + 1) * 1 * 1) = KK at *
  refine cF (by simp only [lC]; omega) ?_
  refine cT (Nat.le_refl _) ?_
  refine cT (Nat.le_refl _) ?_
  refine cT trivial ?_
  have h0 := loop_Only 100000 (w := W + 1) (k := K + 1) (y := Y) (x := X) (v := ((V + 1 : Nat) : Int)) (by omega) (by omega) (by omega) (by omega) (by omega) (by omega) (K := KK) (R := R) (getD_in fK) lK (by omega) hC
    [((K + 1 : Nat) : Int), ((K + 1 : Nat) : Int), ((1 : Nat) : Int), ((1 : Nat) : Int)] [((H + 1 - (K + 1) + 1 : Nat) : Int), ((W + 1 - (K + 1) + 1 : Nat) : Int), ((1 : Nat) : Int)] false true 100000 0 (by omega) (by omega)
  refine bnd _ h0 ?_
  rfl

theorem ConvOnly_row {N : Nat} (hN : N = 100000) (x : Val (rowTy ps_lodgelaw9_ConvOnly)) (_ : FitsL ps_lodgelaw9_ConvOnly x) : (c_lodgelaw9_ConvOnly N).g x = some (true, ()) := by
  subst hN
  exact ConvOnly_law _ _ _ _ _ _ _

end Go.Proofs.YtbpifndhkdbmhaaDoor.Lg
