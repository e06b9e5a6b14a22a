/-
  What the program's functions come to, in plain words.
-/
import Derived.Test.YtbpifndhkdbmhaaDoorLgConvW
namespace Go.Proofs.YtbpifndhkdbmhaaDoor.Lg
open Go Go.Eng Go.Proofs

/-- what is laid round -/
def padE (A : List Int) (za : Int) (h w p i : Nat) : Int :=
  if p ≤ i / (w + 2 * p) ∧ p ≤ i % (w + 2 * p) ∧ i / (w + 2 * p) < h + p ∧ i % (w + 2 * p) < w + p then A.getD ((i / (w + 2 * p) - p) * w + (i % (w + 2 * p) - p)) 0 else za
def padL (A : List Int) (za : Int) (h w p : Nat) : List Int := (List.range ((h + 2 * p) * (w + 2 * p) * 1)).map (padE A za h w p)

theorem loop_Pads (N : Nat) {h w p : Nat} (hh : 1 ≤ h ∧ h ≤ 5) (hw : 1 ≤ w ∧ w ≤ 5) (hp : p ≤ 3) {za : Int} {A : List Int} (hA : A.length = h * w * 1) (sa sh sb : List Int) (wa wt wb : Bool) (r : T × Unit) (R : List Int) (e : Er) :
    ∀ (cnt i : Nat), i ≤ (h + 2 * p) * (w + 2 * p) * 1 → (h + 2 * p) * (w + 2 * p) * 1 < cnt + i →
    g_lodgelaw9_ConvPads_0 N cnt h w p za (((sa, wa), A), ()) r (boxT sh wt R) e (boxT sb wb ((List.range ((h + 2 * p) * (w + 2 * p) * 1)).map fun q => if q < i then padE A za h w p q else 0)) i
      = some (za, (r, (boxT sh wt R, (e, (boxT sb wb (padL A za h w p), ())))))
  | 0, i, hx, hx' => by omega
  | cnt + 1, i, hx, hx' => by
    have hsz : (h + 2 * p) * (w + 2 * p) ≤ 11 * 11 := mul_small (by omega) (by omega)
    rw [g_lodgelaw9_ConvPads_0]
    by_cases hi : i < (h + 2 * p) * (w + 2 * p) * 1
    · have hw1 : wi64 ((w : Int) + wi64 (2 * (p : Int))) = ((w + 2 * p : Nat) : Int) := by
        rw [wi64_in (n := 2 * (p : Int)) (by omega) (by omega), wi64_in (by omega) (by omega)]
        omega
      have ih := loop_Pads N hh hw hp (za := za) hA sa sh sb wa wt wb r R e cnt (i + 1) hi (by omega)
      rw [← set_upto _ _ _ _ hi] at ih
      simp only [hw1, wi64_tdiv (show i ≤ 1000000 by omega), tmod_nat, List.length_map, List.length_range, Int.toNat_natCast, Nat.zero_add, List.length_set]
      generalize hB : (List.range ((h + 2 * p) * (w + 2 * p) * 1)).map (fun q => if q < i then padE A za h w p q else 0) = B at *
      unfold padE at ih
      have hd1 : i / (w + 2 * p) < h + 2 * p := by
        rw [Nat.div_lt_iff_lt_mul (by omega)]
        omega
      have hm1 : i % (w + 2 * p) < w + 2 * p := Nat.mod_lt _ (by omega)
      generalize i / (w + 2 * p) = a at *
      generalize i % (w + 2 * p) = b at *
      have ea : wi64 ((a : Int) - p) = (a : Int) - p := wi64_in (by omega) (by omega)
      have eb : wi64 ((b : Int) - p) = (b : Int) - p := wi64_in (by omega) (by omega)
      simp only [ea, eb, wi64_succ (show i < 9223372036854775807 by omega)]
      refine cT (by omega) ?_
      refine cT (by omega) ?_
      refine cT (by omega) ?_
      refine cT (by omega) ?_
      refine cT hi ?_
      refine cT hi ?_
      have tail : ∀ q1 q2 : Bool, q1 = true → q2 = true → (B.set i za = B.set i (if p ≤ a ∧ p ≤ b ∧ a < h + p ∧ b < w + p then A.getD ((a - p) * w + (b - p)) 0 else za)) →
          (cond q1 (cond q2 (g_lodgelaw9_ConvPads_0 N cnt h w p za (((sa, wa), A), ()) r (boxT sh wt R) e (sb, (wb, (B.set i za, ()))) ((i + 1 : Nat) : Int)) none) none) = some (za, (r, (boxT sh wt R, (e, (boxT sb wb (padL A za h w p), ()))))) := by
        intro q1 q2 h1 h2 h3
        rw [h1, h2, h3]
        exact ih
      by_cases g1 : p ≤ a
      case neg =>
        rw [if_neg (by omega)] at tail
        refine cF (by omega) ?_
        exact tail _ _ (decide_eq_true trivial) (decide_eq_true trivial) rfl
      refine cT (by omega) ?_
      by_cases g2 : p ≤ b
      case neg =>
        rw [if_neg (by omega)] at tail
        refine cF (by omega) ?_
        exact tail _ _ (decide_eq_true trivial) (decide_eq_true trivial) rfl
      refine cT (by omega) ?_
      by_cases g3 : a < h + p
      case neg =>
        rw [if_neg (by omega)] at tail
        refine cF (by omega) ?_
        exact tail _ _ (decide_eq_true trivial) (decide_eq_true trivial) rfl
      refine cT (by omega) ?_
      by_cases g4 : b < w + p
      case neg =>
        rw [if_neg (by omega)] at tail
        refine cF (by omega) ?_
        exact tail _ _ (decide_eq_true trivial) (decide_eq_true trivial) rfl
      refine cT (by omega) ?_
      rw [if_pos ⟨g1, g2, g3, g4⟩] at ih
      have hbd : (a - p) * w + (b - p) < h * w := by
        have : (a - p + 1) * w ≤ h * w := Nat.mul_le_mul_right w (by omega)
        rw [Nat.add_mul] at this
        omega
      have hkk : h * w ≤ 5 * 5 := Nat.mul_le_mul hh.2 hw.2
      have ei : wi64 (wi64 (((a : Int) - p) * w) + ((b : Int) - p)) = (((a - p) * w + (b - p) : Nat) : Int) := by
        rw [show (a : Int) - p = ((a - p : Nat) : Int) by omega, show (b : Int) - p = ((b - p : Nat) : Int) by omega]
        exact wi64_row (by omega)
      simp only [ei, Int.toNat_natCast]
      refine cT (by omega) ?_
      refine cT (by rw [hA]; omega) ?_
      refine cT (by omega) ?_
      refine cT hi ?_
      refine cT hi ?_
      refine cT trivial ?_
      refine cT trivial ?_
      rw [List.set_set]
      exact ih
    · have hie : i = (h + 2 * p) * (w + 2 * p) * 1 := by omega
      subst hie
      refine cF (by simp) ?_
      refine cT rfl ?_
      refine cT rfl ?_
      rw [map_upto_all]
      rfl

theorem pad_core {A K : List Int} {za : Int} {h w kh kw p ow i : Nat} (hkh : 1 ≤ kh ∧ kh ≤ h) (hkw : 1 ≤ kw ∧ kw ≤ w) (how : ow = w + 2 * p - kw + 1) (hi : i < (h + 2 * p - kh + 1) * ow * 1) :
    cvC A K za h w 1 kh kw 1 1 p ow i = cvC (padL A za h w p) K za (h + 2 * p) (w + 2 * p) 1 kh kw 1 1 0 ow i := by
  unfold cvC cvS
  rw [Nat.div_one]
  have ha : i / ow < h + 2 * p - kh + 1 := by
    rw [Nat.div_lt_iff_lt_mul (by omega)]
    omega
  have hb : i % ow < ow := Nat.mod_lt _ (by omega)
  generalize i / ow = a at *
  generalize i % ow = b at *
  congr 1
  refine sumN_congr' fun dy hdy => sumN_congr' fun dx hdx => ?_
  have hin : (a + dy) * (w + 2 * p) + (b + dx) < (h + 2 * p) * (w + 2 * p) := by
    have : (a + dy + 1) * (w + 2 * p) ≤ (h + 2 * p) * (w + 2 * p) := Nat.mul_le_mul_right _ (by omega)
    rw [Nat.add_mul (a + dy) 1] at this
    omega
  have hg : (padL A za h w p).getD ((a + dy) * (w + 2 * p) + (b + dx)) 0 = padE A za h w p ((a + dy) * (w + 2 * p) + (b + dx)) := by
    unfold padL
    rw [getD_lt (by simpa using hin)]
    simp
  have e1 : ((a + dy) * (w + 2 * p) + (b + dx)) / (w + 2 * p) = a + dy := by rw [Nat.mul_comm, Nat.mul_add_div (by omega), Nat.div_eq_of_lt (by omega)]; omega
  have e2 : ((a + dy) * (w + 2 * p) + (b + dx)) % (w + 2 * p) = b + dx := by rw [Nat.mul_comm, Nat.mul_add_mod]; exact Nat.mod_eq_of_lt (by omega)
  unfold padE at hg
  rw [e1, e2] at hg
  unfold cvT
  rw [if_pos (c := 0 ≤ a * 1 + dy ∧ a * 1 + dy - 0 < h + 2 * p ∧ 0 ≤ b * 1 + dx ∧ b * 1 + dx - 0 < w + 2 * p) (by omega)]
  have q1 : a * 1 + dy = a + dy := by omega
  have q2 : b * 1 + dx = b + dx := by omega
  rw [q1, q2, Nat.sub_zero, Nat.sub_zero]
  unfold sumN
  unfold sumN cvP
  have q3 : ((a + dy) * (w + 2 * p) + (b + dx)) * 1 + 0 = (a + dy) * (w + 2 * p) + (b + dx) := by omega
  have q4 : ((a + dy - p) * w + (b + dx - p)) * 1 + 0 = (a + dy - p) * w + (b + dx - p) := by omega
  rw [q3, q4, hg]
  by_cases hc : p ≤ a + dy ∧ a + dy - p < h ∧ p ≤ b + dx ∧ b + dx - p < w
  · rw [if_pos hc, if_pos (by omega)]
  · rw [if_neg hc, if_neg (by omega), Int.sub_self, Int.zero_mul]
    rfl

theorem padL_length (A : List Int) (za : Int) (h w p : Nat) : (padL A za h w p).length = (h + 2 * p) * (w + 2 * p) * 1 := by simp [padL]
theorem padL_in {A : List Int} {za : Int} (hA : ∀ x, x ∈ A → -128 ≤ x ∧ x ≤ 127) (hz : -128 ≤ za ∧ za ≤ 127) (h w p : Nat) : ∀ x, x ∈ padL A za h w p → -128 ≤ x ∧ x ≤ 127 := by
  intro x hx
  simp only [padL, List.mem_map] at hx
  obtain ⟨i, _, rfl⟩ := hx
  unfold padE
  split
  · exact getD_in hA _
  · exact hz

theorem ConvPads_law (h w k pad : Int) (l : List Int) (za : Int) : F_lodgelaw9_ConvPads 100000 h w k pad l za = some (true, ()) := by
  have hN : 20000 ≤ 100000 := by omega
  obtain ⟨H, hH, eH⟩ := Number_nat (N := 100000) h 5 (by omega) (by omega)
  obtain ⟨W, hW, eW⟩ := Number_nat (N := 100000) w 5 (by omega) (by omega)
  obtain ⟨K, hK, eK⟩ := Number_nat (N := 100000) k (min (H + 1) (W + 1)) (by omega) (by omega)
  obtain ⟨P, hP, eP⟩ := Number_nat (N := 100000) pad 4 (by omega) (by omega)
  obtain ⟨Z, hZ, eZ⟩ := Number_nat (N := 100000) za 256 (by omega) (by omega)
  have sH : wi64 ((H : Int) + 1) = ((H + 1 : Nat) : Int) := wi64_succ (by omega)
  have sW : wi64 ((W : Int) + 1) = ((W + 1 : Nat) : Int) := wi64_succ (by omega)
  have sK : wi64 ((K : Int) + 1) = ((K + 1 : Nat) : Int) := wi64_succ (by omega)
  have sZ : wi64 ((Z : Int) - 128) = (Z : Int) - 128 := wi64_in (by omega) (by omega)
  have sH2 : wi64 (((H + 1 : Nat) : Int) + wi64 (2 * (P : Int))) = ((H + 1 + 2 * P : Nat) : Int) := by
    rw [wi64_in (n := 2 * (P : Int)) (by omega) (by omega), wi64_in (by omega) (by omega)]
    omega
  have sW2 : wi64 (((W + 1 : Nat) : Int) + wi64 (2 * (P : Int))) = ((W + 1 + 2 * P : Nat) : Int) := by
    rw [wi64_in (n := 2 * (P : Int)) (by omega) (by omega), wi64_in (by omega) (by omega)]
    omega
  have sm : imin ((H + 1 : Nat) : Int) ((W + 1 : Nat) : Int) = ((min (H + 1) (W + 1) : Nat) : Int) := by
    rw [imin_eq]
    omega
  have p1 : (H + 1) * (W + 1) ≤ 5 * 5 := mul_small (by omega) (by omega)
  have p2 : (K + 1) * (K + 1) ≤ 5 * 5 := mul_small (by omega) (by omega)
  have p3 : (H + 1 + 2 * P) * (W + 1 + 2 * P) ≤ 11 * 11 := mul_small (by omega) (by omega)
  unfold F_lodgelaw9_ConvPads
  refine bnd _ first_100' ?_
  refine bF rfl ?_
  by_cases hl : l.length ≤ 30
  case neg => exact cT (by omega) rfl
  refine cF (by omega) ?_
  refine bF rfl ?_
  refine bnd _ eH ?_
  refine bnd _ eW ?_
  simp only [sH, sW, sm]
  refine bnd _ eK ?_
  refine bnd _ eP ?_
  refine bnd _ eZ ?_
  simp only [sK, sZ, sH2, sW2]
  refine bnd _ (tensor_three hN (a := H + 1) (b := W + 1) (c := 1) l (by omega) (by omega) (by omega) (by omega)) ?_
  refine bnd _ (lodgeref_Ints_spec l (by omega) (by omega)) ?_
  refine cT (by simp) ?_
  refine cT (show (l.length + 1) * (8 + 1) ≤ most by unfold most; omega) ?_
  refine cT (by simp) ?_
  rw [take_one_more]
  refine bnd _ (tensor_four hN (a := K + 1) (b := K + 1) (c := 1) (d := 1) (l ++ [3]) (by omega) (by omega) (by omega) (by omega) (by omega)) ?_
  have fA := tenD_in l ((H + 1) * (W + 1) * 1)
  have lA := tenD_length l ((H + 1) * (W + 1) * 1)
  have fK := tenD_in (l ++ [3]) ((K + 1) * (K + 1) * 1 * 1)
  have lK := tenD_length (l ++ [3]) ((K + 1) * (K + 1) * 1 * 1)
  generalize tenD l ((H + 1) * (W + 1) * 1) = AA at *
  generalize tenD (l ++ [3]) ((K + 1) * (K + 1) * 1 * 1) = KK at *
  refine cT (by simp) ?_
  refine cT (by simp) ?_
  simp only [List.take_length]
  have b1 : (H + 1 + 2 * P - (K + 1) + 1) * (W + 1 + 2 * P - (K + 1) + 1) ≤ 11 * 11 := mul_small (by omega) (by omega)
  have hgood := (conv_good hN (A := AA) (K := KK) (za := (Z : Int) - 128)
    (h := H + 1) (w := W + 1) (c := 1) (kh := K + 1) (kw := K + 1) (n := 1) (s := 1) (p := P) (by omega) (by omega) (by omega) (by omega) (by omega) (by omega) (by omega) (by omega)
    lA lK (by omega) (by omega) fA fK (by omega) (by omega) (by omega) (oh := H + 1 + 2 * P - (K + 1) + 1) (ow := W + 1 + 2 * P - (K + 1) + 1) (by rw [Nat.div_one]) (by rw [Nat.div_one]) (by omega) (by omega) (by omega)).1
  refine bnd _ hgood ?_
  refine bnd _ (tensor_three hN (a := H + 1 + 2 * P) (b := W + 1 + 2 * P) (c := 1) [] (by omega) (by omega) (by omega) (by omega)) ?_
  refine cT (by simp) ?_
  refine cT (by simp) ?_
  refine cT (by simp) ?_
  refine cT (by simp) ?_
  refine cT (by simp) ?_
  refine cT (by simp) ?_
  have h0 := loop_Pads 100000 (h := H + 1) (w := W + 1) (p := P) (by omega) (by omega) (by omega) (za := (Z : Int) - 128) lA
    [((H + 1 : Nat) : Int), ((W + 1 : Nat) : Int), ((1 : Nat) : Int)] [((H + 1 + 2 * P - (K + 1) + 1 : Nat) : Int), ((W + 1 + 2 * P - (K + 1) + 1 : Nat) : Int), ((1 : Nat) : Int)] [((H + 1 + 2 * P : Nat) : Int), ((W + 1 + 2 * P : Nat) : Int), ((1 : Nat) : Int)] false true false
    ((([((K + 1 : Nat) : Int), ((K + 1 : Nat) : Int), ((1 : Nat) : Int), ((1 : Nat) : Int)], false), KK), ())
    (cvL AA KK ((Z : Int) - 128) (H + 1) (W + 1) 1 (K + 1) (K + 1) 1 1 P (H + 1 + 2 * P - (K + 1) + 1) (W + 1 + 2 * P - (K + 1) + 1)) .nil 100000 0 (by omega) (by omega)
  rw [map_upto_zero, ← replicate_range, ← tenD_nil] at h0
  refine bnd _ h0 ?_
  refine cT (by simp) ?_
  simp only
  have hgood2 := (conv_good hN (A := padL AA ((Z : Int) - 128) (H + 1) (W + 1) P) (K := KK) (za := (Z : Int) - 128)
    (h := H + 1 + 2 * P) (w := W + 1 + 2 * P) (c := 1) (kh := K + 1) (kw := K + 1) (n := 1) (s := 1) (p := 0) (by omega) (by omega) (by omega) (by omega) (by omega) (by omega) (by omega) (by omega)
    (padL_length _ _ _ _ _) lK (by omega) (by omega) (padL_in fA (by omega) _ _ _) fK (by omega) (by omega) (by omega) (oh := H + 1 + 2 * P - (K + 1) + 1) (ow := W + 1 + 2 * P - (K + 1) + 1) (by rw [Nat.div_one]; rfl) (by rw [Nat.div_one]; rfl) (by omega) (by omega) (by omega)).1
  refine bnd _ hgood2 ?_
  refine bT rfl ?_
  refine bT rfl ?_
  refine cT (by simp) ?_
  refine cT (by simp) ?_
  have hsame : cvL (padL AA ((Z : Int) - 128) (H + 1) (W + 1) P) KK ((Z : Int) - 128) (H + 1 + 2 * P) (W + 1 + 2 * P) 1 (K + 1) (K + 1) 1 1 0 (H + 1 + 2 * P - (K + 1) + 1) (W + 1 + 2 * P - (K + 1) + 1)
      = cvL AA KK ((Z : Int) - 128) (H + 1) (W + 1) 1 (K + 1) (K + 1) 1 1 P (H + 1 + 2 * P - (K + 1) + 1) (W + 1 + 2 * P - (K + 1) + 1) := by
    unfold cvL
    apply List.map_congr_left
    intro i hi
    exact (pad_core (by omega) (by omega) rfl (List.mem_range.1 hi)).symm
  simp only [hsame]
  have lC := cvL_length AA KK ((Z : Int) - 128) (H + 1) (W + 1) 1 (K + 1) (K + 1) 1 1 P (H + 1 + 2 * P - (K + 1) + 1) (W + 1 + 2 * P - (K + 1) + 1)
  refine bnd _ (tens_Same_refl _ (by simp) (by simp) (by simp only [lC]; omega) (by simp only [lC]; omega)) ?_
  rfl

theorem ConvPads_row {N : Nat} (hN : N = 100000) (x : Val (rowTy ps_lodgelaw9_ConvPads)) (_ : FitsL ps_lodgelaw9_ConvPads x) : (c_lodgelaw9_ConvPads N).g x = some (true, ()) := by
  subst hN
  exact ConvPads_law _ _ _ _ _ _

end Go.Proofs.YtbpifndhkdbmhaaDoor.Lg
