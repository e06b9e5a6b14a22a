/-
  What the program's functions come to, in plain words.
-/
import Derived.Test.YtbpifndhkdbmhaaDoorLgConvW
import Derived.Test.YtbpifndhkdbmhaaDoorLgConvM
namespace Go.Proofs.YtbpifndhkdbmhaaDoor.Lg
open Go Go.Eng Go.Proofs

theorem sumN_one (f : Nat → Int) : sumN f 1 = f 0 := by
  unfold sumN
  unfold sumN
  omega

theorem slices_Clone_spec (N : Nat) (l : List Int) (hl : l.length < 1000000) : F_slices_Clone_int_int N l = some (l, ()) := by
  unfold F_slices_Clone_int_int
  refine cT (by simp [most]; omega) ?_
  refine cT (by simp) ?_
  rfl

theorem tens_Clone_spec (N : Nat) (t : T) (h1 : t.1.1.length < 1000000) (h2 : t.2.length < 1000000) : F_tens_Clone N t = some (boxT t.1.1 t.1.2 t.2, ()) := by
  unfold F_tens_Clone F_shape_Clone
  refine bnd ((t.1.1, (t.1.2, ())), ()) ?_ ?_
  · refine bnd _ (slices_Clone_spec N _ h1) ?_
    exact cT rfl rfl
  · refine bnd _ (slices_Clone_spec N _ h2) ?_
    refine cT rfl ?_
    exact cT rfl rfl

theorem ones_core {A K : List Int} {za : Int} {h w c n i : Nat} (hw : 1 ≤ w) (hn : 1 ≤ n) (hi : i < h * w * n) :
    cvC A K za h w c 1 1 n 1 0 w i = mulC A K za 0 c n i := by
  unfold cvC cvS mulC
  congr 1
  have ha : i / n / w < h := by
    rw [Nat.div_lt_iff_lt_mul (by omega), Nat.div_lt_iff_lt_mul (by omega)]
    exact hi
  have hb : i / n % w < w := Nat.mod_lt _ (by omega)
  have hq : i / n / w * w + i / n % w = i / n := by rw [Nat.mul_comm]; exact Nat.div_add_mod _ _
  rw [sumN_one, sumN_one]
  unfold cvT
  rw [if_pos (by omega)]
  refine sumN_congr' fun ch _ => ?_
  unfold cvP mulF
  have q1 : (i / n / w * 1 + 0 - 0) * w + (i / n % w * 1 + 0 - 0) = i / n := by
    rw [Nat.mul_one, Nat.mul_one]
    exact hq
  have q2 : (0 * 1 + 0) * c + ch = ch := by omega
  rw [q1, q2, Int.sub_zero]

theorem ConvOnes_law (h w c n : Int) (l : List Int) (za : Int) : F_lodgelaw9_ConvOnes 100000 h w c n l za = some (true, ()) := by
  have hN : 20000 ≤ 100000 := by omega
  obtain ⟨H, hH, eH⟩ := Number_nat (N := 100000) h 5 (by omega) (by omega)
  obtain ⟨W, hW, eW⟩ := Number_nat (N := 100000) w 5 (by omega) (by omega)
  obtain ⟨C, hC, eC⟩ := Number_nat (N := 100000) c 5 (by omega) (by omega)
  obtain ⟨M, hM, eM⟩ := Number_nat (N := 100000) n 5 (by omega) (by omega)
  obtain ⟨Z, hZ, eZ⟩ := Number_nat (N := 100000) za 256 (by omega) (by omega)
  have sH : wi64 ((H : Int) + 1) = ((H + 1 : Nat) : Int) := wi64_succ (by omega)
  have sW : wi64 ((W : Int) + 1) = ((W + 1 : Nat) : Int) := wi64_succ (by omega)
  have sC : wi64 ((C : Int) + 1) = ((C + 1 : Nat) : Int) := wi64_succ (by omega)
  have sM : wi64 ((M : Int) + 1) = ((M + 1 : Nat) : Int) := wi64_succ (by omega)
  have sZ : wi64 ((Z : Int) - 128) = (Z : Int) - 128 := wi64_in (by omega) (by omega)
  have p1 : (H + 1) * (W + 1) ≤ 5 * 5 := mul_small (by omega) (by omega)
  have p0 : 1 ≤ (H + 1) * (W + 1) := Nat.mul_pos (by omega) (by omega)
  have p2 : (H + 1) * (W + 1) * (C + 1) ≤ 25 * 5 := mul_small p1 (by omega)
  have p3 : (H + 1) * (W + 1) * (M + 1) ≤ 25 * 5 := mul_small p1 (by omega)
  have p4 : (C + 1) * (M + 1) ≤ 5 * 5 := mul_small (by omega) (by omega)
  have p5 : 1 * 1 * (C + 1) * (M + 1) = (C + 1) * (M + 1) := by rw [show 1 * 1 = 1 from rfl, Nat.one_mul]
  have sHW : wi64 (((H + 1 : Nat) : Int) * ((W + 1 : Nat) : Int)) = (((H + 1) * (W + 1) : Nat) : Int) := wi64_mul (by omega)
  unfold F_lodgelaw9_ConvOnes
  refine bnd _ first_100' ?_
  refine bF rfl ?_
  by_cases hl : l.length ≤ 30
  case neg => exact cT (by omega) rfl
  refine cF (by omega) ?_
  refine bF rfl ?_
  refine bnd _ eH ?_
  refine bnd _ eW ?_
  refine bnd _ eC ?_
  refine bnd _ eM ?_
  refine bnd _ eZ ?_
  simp only [sH, sW, sC, sM, sZ, sHW]
  refine bnd _ (tensor_three hN (a := H + 1) (b := W + 1) (c := C + 1) l (by omega) (by omega) (by omega) (by omega)) ?_
  refine bnd _ (lodgeref_Ints_spec l (by omega) (by omega)) ?_
  refine cT (by simp) ?_
  refine cT (show (l.length + 1) * (8 + 1) ≤ most by unfold most; omega) ?_
  refine cT (by simp) ?_
  rw [take_one_more]
  refine bnd _ (tensor_four hN (a := 1) (b := 1) (c := C + 1) (d := M + 1) (l ++ [9]) (by omega) (by omega) (by omega) (by omega) (by omega)) ?_
  have fA := tenD_in l ((H + 1) * (W + 1) * (C + 1))
  have lA := tenD_length l ((H + 1) * (W + 1) * (C + 1))
  have fK := tenD_in (l ++ [9]) (1 * 1 * (C + 1) * (M + 1))
  have lK := tenD_length (l ++ [9]) (1 * 1 * (C + 1) * (M + 1))
  generalize tenD l ((H + 1) * (W + 1) * (C + 1)) = AA at *
  generalize tenD (l ++ [9]) (1 * 1 * (C + 1) * (M + 1)) = KK at *
  refine cT (by simp) ?_
  refine cT (by simp) ?_
  simp only [List.take_length]
  have hgood := (conv_good hN (A := AA) (K := KK) (za := (Z : Int) - 128)
    (h := H + 1) (w := W + 1) (c := C + 1) (kh := 1) (kw := 1) (n := M + 1) (s := 1) (p := 0) (by omega) (by omega) (by omega) (by omega) (by omega) (by omega) (by omega) (by omega)
    lA lK (by omega) (by omega) fA fK (by omega) (by omega) (by omega) (oh := H + 1) (ow := W + 1) (by rw [Nat.div_one]; omega) (by rw [Nat.div_one]; omega) (by omega) (by omega) (by omega)).1
  refine bnd _ hgood ?_
  refine cT (by simp) ?_
  refine bnd _ (tens_Clone_spec 100000 _ (by simp) (by simp only [lA]; omega)) ?_
  refine cT (by simp) ?_
  refine bnd _ (tens_Clone_spec 100000 _ (by simp) (by simp only [lK]; omega)) ?_
  refine cT (by simp) ?_
  refine cT (by simp) ?_
  simp only
  refine bnd _ (mat_Mul_good hN (m := (H + 1) * (W + 1)) (k := C + 1) (n := M + 1) (A := AA) (B := KK) (za := (Z : Int) - 128) (zb := 0) (by omega) (by omega) (by omega) (by omega) (by omega) (by omega) lA (by rw [lK, p5]) fA fK (by omega) (by omega)) ?_
  refine bT rfl ?_
  refine bT rfl ?_
  refine bnd _ (lodgeref_SameInts_spec _ _ (by simp) (by simp)) ?_
  refine bT (by simp) ?_
  refine cT (by simp) ?_
  refine cT (by simp) ?_
  simp only
  have hsame : cvL AA KK ((Z : Int) - 128) (H + 1) (W + 1) (C + 1) 1 1 (M + 1) 1 0 (H + 1) (W + 1) = mulL AA KK ((Z : Int) - 128) 0 ((H + 1) * (W + 1)) (C + 1) (M + 1) := by
    unfold cvL mulL
    apply List.map_congr_left
    intro i hi
    exact ones_core (by omega) (by omega) (List.mem_range.1 hi)
  rw [hsame]
  have lM := mulL_length AA KK ((Z : Int) - 128) 0 ((H + 1) * (W + 1)) (C + 1) (M + 1)
  refine bnd _ (lodgeref_SameInts_spec _ _ (by rw [lM]; omega) (by rw [lM]; omega)) ?_
  simp

theorem ConvOnes_row {N : Nat} (hN : N = 100000) (x : Val (rowTy ps_lodgelaw9_ConvOnes)) (_ : FitsL ps_lodgelaw9_ConvOnes x) : (c_lodgelaw9_ConvOnes N).g x = some (true, ()) := by
  subst hN
  exact ConvOnes_law _ _ _ _ _ _

end Go.Proofs.YtbpifndhkdbmhaaDoor.Lg
