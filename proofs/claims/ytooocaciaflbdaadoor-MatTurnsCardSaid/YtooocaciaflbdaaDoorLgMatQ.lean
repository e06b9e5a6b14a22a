/-
  The laws of products, in plain words.
-/
import Derived.Test.YtooocaciaflbdaaDoorLgMatP
import Derived.Test.YtooocaciaflbdaaDoorLgEngZc
namespace Go.Proofs.YtooocaciaflbdaaDoor.Lg
open Go Go.Eng Go.Proofs

theorem mod_nat (n : Int) (b : Nat) (hb : 0 < b) : ∃ M : Nat, M < b ∧ n % (b : Int) = (M : Int) := by
  have h1 := Int.emod_nonneg n (show (b : Int) ≠ 0 by omega)
  have h2 := Int.emod_lt_of_pos n (show (0 : Int) < b by omega)
  exact ⟨(n % (b : Int)).toNat, by omega, by omega⟩

theorem take_app_one (l : List Int) (x : Int) : List.take (l.length + 1) (List.take l.length l ++ [x]) = l ++ [x] := by
  rw [List.take_length]
  exact List.take_of_length_le (by simp)

/-- a row more on top -/
theorem mulL_top {A T B : List Int} {za zb : Int} {m k n : Nat} (hT : T.length = k) (hn : 0 < n) :
    (mulL (T ++ A) B za zb (m + 1) k n).take n = mulL T B za zb 1 k n ∧ (mulL (T ++ A) B za zb (m + 1) k n).drop n = mulL A B za zb m k n := by
  have len : (m + 1) * n = n + m * n := by rw [Nat.add_mul, Nat.one_mul, Nat.add_comm]
  have sumeq : ∀ (f g : Nat → Int) (c : Nat), (∀ x, x < c → f x = g x) → sumN f c = sumN g c := by
    intro f g c
    induction c with
    | zero => intro _; rfl
    | succ c ih => intro h; simp only [sumN]; rw [ih (fun x hx => h x (by omega)), h c (by omega)]
  constructor
  · apply List.ext_getElem
    · simp [mulL, len]
    · intro p h1 h2
      simp only [mulL, List.length_map, List.length_range, Nat.one_mul] at h2
      simp only [mulL, List.getElem_take, List.getElem_map, List.getElem_range, mulC]
      congr 1
      apply sumeq
      intro x hx
      simp only [mulF, Nat.div_eq_of_lt h2, Nat.zero_mul, Nat.zero_add]
      rw [getD_append_left (by omega)]
  · apply List.ext_getElem
    · simp [mulL, len]
    · intro p h1 h2
      simp only [mulL, List.getElem_drop, List.getElem_map, List.getElem_range, mulC]
      congr 1
      apply sumeq
      intro x hx
      simp only [mulF]
      have d1 : (n + p) / n = p / n + 1 := by rw [Nat.add_comm, Nat.add_div_right _ hn]
      have d2 : (n + p) % n = p % n := by rw [Nat.add_mod_left]
      rw [d1, d2]
      have : (T ++ A).getD ((p / n + 1) * k + x) 0 = A.getD (p / n * k + x) 0 := by
        rw [List.getD_eq_getElem?_getD, List.getD_eq_getElem?_getD, List.getElem?_append_right (by rw [hT, Nat.add_mul]; omega), hT, Nat.add_mul]
        congr 2
        omega
      rw [this]

/-- one list into another, twice -/
theorem copy_two (T A Z : List Int) (c : Nat) (hc : T.length = c) (hZ : Z.length = c + A.length) :
    (List.take (0 + c) ((List.take 0 Z ++ List.take (min T.length Z.length) T) ++ List.drop (0 + min T.length Z.length) Z) ++ List.take (min A.length (Z.length - c)) A) ++
      List.drop (0 + c + min A.length (Z.length - c)) ((List.take 0 Z ++ List.take (min T.length Z.length) T) ++ List.drop (0 + min T.length Z.length) Z) = T ++ A := by
  subst hc
  have h1 : min T.length Z.length = T.length := by omega
  have h2 : min A.length (Z.length - T.length) = A.length := by omega
  rw [h1, h2, List.take_zero, List.nil_append, List.take_length, List.take_length, Nat.zero_add, List.take_left, List.drop_eq_nil_of_le (by simp; omega), List.append_nil]

theorem Number_nat {N : Nat} (n : Int) (b : Nat) (hb : 0 < b) (hb' : b ≤ 1000) : ∃ M : Nat, M < b ∧ F_lodgeworld_Number N n (b : Int) = some ((M : Int), ()) := by
  obtain ⟨M, hM, e⟩ := mod_nat n b hb
  exact ⟨M, hM, by rw [lodgeworld_Number_spec N n b (by omega) (by omega), e]⟩

theorem matrix_app {N : Nat} (hN : 20000 ≤ N) (l : List Int) (x : Int) (m n : Nat) (hmn : m * n ≤ 16384) : F_lodgelaw8_matrix N m n (List.take (l.length + 1) (List.take l.length l ++ [x])) = some (boxT [(m : Int), (n : Int)] false (matD (l ++ [x]) m n), ()) := by
  rw [take_app_one]
  exact lodgelaw8_matrix_spec hN _ m n hmn

theorem matrix_one {N : Nat} (hN : 20000 ≤ N) (l : List Int) (x : Int) (n : Nat) (hmn : n ≤ 16384) : F_lodgelaw8_matrix N 1 n (List.take (l.length + 1) (List.take l.length l ++ [x])) = some (boxT [((1 : Nat) : Int), (n : Int)] false (matD (l ++ [x]) 1 n), ()) :=
  matrix_app hN l x 1 n (by omega)

/-- a product of what has been handed out whole -/
theorem Mul_take {N : Nat} (hN : 20000 ≤ N) {m k n : Nat} {A B : List Int} {za zb : Int} (hm : 1 ≤ m ∧ m ≤ 16) (hk : 1 ≤ k ∧ k ≤ 16) (hn : 1 ≤ n ∧ n ≤ 16)
    (hA : A.length = m * k) (hB : B.length = k * n) (fA : ∀ x, x ∈ A → -128 ≤ x ∧ x ≤ 127) (fB : ∀ x, x ∈ B → -128 ≤ x ∧ x ≤ 127) (hza : -128 ≤ za ∧ za ≤ 127) (hzb : -128 ≤ zb ∧ zb ≤ 127) :
    F_mat_Mul N ((List.take (List.length [(m : Int), (k : Int)]) [(m : Int), (k : Int)], false), List.take A.length A) ((List.take (List.length [(k : Int), (n : Int)]) [(k : Int), (n : Int)], false), List.take B.length B) za zb = some (boxT [(m : Int), (n : Int)] true (mulL A B za zb m k n), (.nil, ())) := by
  have small : ∀ a b : Nat, a ≤ 16 → b ≤ 16 → a * b ≤ 256 := fun a b ha hb => Nat.mul_le_mul ha hb
  have h1 := small m k hm.2 hk.2
  have h2 := small k n hk.2 hn.2
  have h3 := small m n hm.2 hn.2
  rw [List.take_length, List.take_length, List.take_length, List.take_length]
  exact mat_Mul_good hN (by omega) (by omega) (by omega) (by omega) (by omega) (by omega) hA hB fA fB hza hzb

theorem MatAdds_law {N : Nat} (hN : 20000 ≤ N) (m k n : Int) (l : List Int) (za zb : Int) : F_lodgelaw8_MatAdds N m k n l za zb = some (true, ()) := by
  obtain ⟨M, hM, eM⟩ := Number_nat (N := N) m 8 (by omega) (by omega)
  obtain ⟨K, hK, eK⟩ := Number_nat (N := N) k 8 (by omega) (by omega)
  obtain ⟨L, hL, eL⟩ := Number_nat (N := N) n 8 (by omega) (by omega)
  obtain ⟨A, hA, eA⟩ := Number_nat (N := N) za 256 (by omega) (by omega)
  obtain ⟨B, hB, eB⟩ := Number_nat (N := N) zb 256 (by omega) (by omega)
  have sM : wi64 ((M : Int) + 1) = ((M + 1 : Nat) : Int) := wi64_succ (by omega)
  have sK : wi64 ((K : Int) + 1) = ((K + 1 : Nat) : Int) := wi64_succ (by omega)
  have sL : wi64 ((L : Int) + 1) = ((L + 1 : Nat) : Int) := wi64_succ (by omega)
  have sM2 : wi64 (((M + 1 : Nat) : Int) + 1) = ((M + 1 + 1 : Nat) : Int) := wi64_succ (by omega)
  have sA : wi64 ((A : Int) - 128) = (A : Int) - 128 := wi64_in (by omega) (by omega)
  have sB : wi64 ((B : Int) - 128) = (B : Int) - 128 := wi64_in (by omega) (by omega)
  have small : ∀ a b : Nat, a ≤ 16 → b ≤ 16 → a * b ≤ 256 := fun a b ha hb => Nat.mul_le_mul ha hb
  have p1 := small (M + 1) (K + 1) (by omega) (by omega)
  have p2 := small (K + 1) (L + 1) (by omega) (by omega)
  have p3 := small (M + 1 + 1) (K + 1) (by omega) (by omega)
  have p4 := small (M + 1 + 1) (L + 1) (by omega) (by omega)
  have q3 : (M + 1 + 1) * (K + 1) = (K + 1) + (M + 1) * (K + 1) := by rw [Nat.add_mul (M + 1) 1, Nat.one_mul, Nat.add_comm]
  have q4 : (M + 1 + 1) * (L + 1) = (L + 1) + (M + 1) * (L + 1) := by rw [Nat.add_mul (M + 1) 1, Nat.one_mul, Nat.add_comm]
  unfold F_lodgelaw8_MatAdds
  refine bnd _ (lodgelaw8_first_spec hN) ?_
  refine bF rfl ?_
  by_cases hl : l.length ≤ 40
  case neg => exact cT (by omega) rfl
  refine cF (by omega) ?_
  refine bF rfl ?_
  refine bnd _ eM ?_
  refine bnd _ eK ?_
  refine bnd _ eL ?_
  refine bnd _ eA ?_
  refine bnd _ eB ?_
  simp only [sM, sK, sL, sM2, sA, sB, Int.toNat_natCast]
  refine bnd _ (lodgelaw8_matrix_spec hN l (M + 1) (K + 1) (by omega)) ?_
  refine bnd _ (lodgeref_Ints_spec l (by omega) (by omega)) ?_
  refine cT (by simp) ?_
  refine cT (show (l.length + 1) * (8 + 1) ≤ most by unfold most; omega) ?_
  refine cT (by simp) ?_
  refine bnd _ (matrix_app hN l 11 (K + 1) (L + 1) (by omega)) ?_
  refine bnd _ (lodgeref_Ints_spec l (by omega) (by omega)) ?_
  refine cT (by simp) ?_
  refine cT (show (l.length + 1) * (8 + 1) ≤ most by unfold most; omega) ?_
  refine cT (by simp) ?_
  refine bnd _ (matrix_one hN l 17 (K + 1) (by omega)) ?_
  refine bnd _ (lodgelaw8_matrix_spec hN [] (M + 1 + 1) (K + 1) (by omega)) ?_
  have lT : (matD (l ++ [17]) 1 (K + 1)).length = K + 1 := by rw [matD_length, Nat.one_mul]
  have lA : (matD l (M + 1) (K + 1)).length = (M + 1) * (K + 1) := matD_length _ _ _
  have lB : (matD (l ++ [11]) (K + 1) (L + 1)).length = (K + 1) * (L + 1) := matD_length _ _ _
  have lZ : (matD [] (M + 1 + 1) (K + 1)).length = (M + 1 + 1) * (K + 1) := matD_length _ _ _
  have iT := matD_in (l ++ [17]) 1 (K + 1)
  have iA := matD_in l (M + 1) (K + 1)
  have iB := matD_in (l ++ [11]) (K + 1) (L + 1)
  generalize matD (l ++ [17]) 1 (K + 1) = T at *
  generalize matD l (M + 1) (K + 1) = AA at *
  generalize matD (l ++ [11]) (K + 1) (L + 1) = BB at *
  generalize matD [] (M + 1 + 1) (K + 1) = Z at *
  refine cT (by simp) ?_
  refine cT (by simp) ?_
  refine cT (by omega) ?_
  refine cT (show K + 1 ≤ Z.length by omega) ?_
  refine cT (Nat.le_refl _) ?_
  refine cT (by simp) ?_
  refine cT (by simp; omega) ?_
  refine cT (by simp) ?_
  refine cT (by simp) ?_
  refine cT (by simp) ?_
  refine cT (by simp) ?_
  refine bnd _ (Mul_take hN (m := M + 1) (k := K + 1) (n := L + 1) (by omega) (by omega) (by omega) lA lB iA iB (by omega) (by omega)) ?_
  refine cT (by simp) ?_
  refine cT (by simp) ?_
  refine cT (by simp) ?_
  refine cT (by simp) ?_
  refine bnd _ (Mul_take hN (m := 1) (k := K + 1) (n := L + 1) (by omega) (by omega) (by omega) (by rw [lT, Nat.one_mul]) lB iT iB (by omega) (by omega)) ?_
  simp only [List.take_length]
  rw [copy_two T AA Z (K + 1) lT (by omega)]
  refine cT (by simp) ?_
  refine cT (by simp; omega) ?_
  refine cT (by simp) ?_
  refine cT (by simp) ?_
  have hboth : List.take Z.length (T ++ AA) = T ++ AA := List.take_of_length_le (by simp; omega)
  rw [hboth]
  refine bnd (boxT [((M + 1 + 1 : Nat) : Int), ((L + 1 : Nat) : Int)] true (mulL (T ++ AA) BB (A - 128) (B - 128) (M + 1 + 1) (K + 1) (L + 1)), (.nil, ())) ?_ ?_
  · refine mat_Mul_good hN (by omega) (by omega) (by omega) (by omega) (by omega) (by omega) (by simp; omega) lB (fun x hx => ?_) iB (by omega) (by omega)
    rcases List.mem_append.1 hx with hx | hx
    · exact iT x hx
    · exact iA x hx
  obtain ⟨r1, r2⟩ := mulL_top (A := AA) (T := T) (B := BB) (za := (A : Int) - 128) (zb := (B : Int) - 128) (m := M + 1) (k := K + 1) (n := L + 1) lT (by omega)
  have lr : (mulL (T ++ AA) BB (A - 128) (B - 128) (M + 1 + 1) (K + 1) (L + 1)).length = (M + 1 + 1) * (L + 1) := mulL_length _ _ _ _ _ _ _
  have lq : (mulL T BB (A - 128) (B - 128) 1 (K + 1) (L + 1)).length = L + 1 := by rw [mulL_length, Nat.one_mul]
  have lp : (mulL AA BB (A - 128) (B - 128) (M + 1) (K + 1) (L + 1)).length = (M + 1) * (L + 1) := mulL_length _ _ _ _ _ _ _
  generalize mulL (T ++ AA) BB (A - 128) (B - 128) (M + 1 + 1) (K + 1) (L + 1) = R at *
  generalize mulL T BB (A - 128) (B - 128) 1 (K + 1) (L + 1) = Q at *
  generalize mulL AA BB (A - 128) (B - 128) (M + 1) (K + 1) (L + 1) = PP at *
  refine bF rfl ?_
  refine bF rfl ?_
  refine bF rfl ?_
  refine cT (by omega) ?_
  refine cT (show L + 1 ≤ R.length by omega) ?_
  refine cT (by simp; omega) ?_
  refine cT (by simp) ?_
  refine bnd (true, ()) ?_ ?_
  · rw [lodgeref_SameInts_spec _ _ (by simp; omega) (by simp; omega)]
    simp [r1]
  refine bT rfl ?_
  refine cT (by omega) ?_
  refine cT (show L + 1 ≤ R.length by omega) ?_
  refine cT (Nat.le_refl _) ?_
  refine cT (by simp; omega) ?_
  refine cT (by simp) ?_
  refine bnd (true, ()) ?_ rfl
  rw [lodgeref_SameInts_spec _ _ (by simp; omega) (by simp; omega)]
  have : List.take (R.length - (L + 1)) (List.drop (0 + (L + 1)) R) = PP := by
    rw [Nat.zero_add, r2]
    exact List.take_of_length_le (by omega)
  simp only [this, decide_true]

theorem MatAdds_row {N : Nat} (hN : 20000 ≤ N) (x : Val (rowTy ps_lodgelaw8_MatAdds)) (_ : FitsL ps_lodgelaw8_MatAdds x) : (c_lodgelaw8_MatAdds N).g x = some (true, ()) := MatAdds_law hN _ _ _ _ _ _

end Go.Proofs.YtooocaciaflbdaaDoor.Lg
