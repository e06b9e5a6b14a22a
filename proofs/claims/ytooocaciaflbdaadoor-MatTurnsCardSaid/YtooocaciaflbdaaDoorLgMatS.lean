/-
  The laws of turned products and of ones, in plain words.
-/
import Derived.Test.YtooocaciaflbdaaDoorLgMatR
namespace Go.Proofs.YtooocaciaflbdaaDoor.Lg
open Go Go.Eng Go.Proofs

theorem Turn_half {N : Nat} (hN : 20000 ≤ N) {m n : Nat} {A : List Int} (hm : 1 ≤ m ∧ m ≤ 16) (hn : 1 ≤ n ∧ n ≤ 16) (hA : A.length = m * n) (fA : ∀ x, x ∈ A → -2147483648 ≤ x ∧ x ≤ 2147483647) :
    F_mat_Turn N (([(m : Int), (n : Int)], true), List.take A.length A) = some (boxT [(n : Int), (m : Int)] true (turnL A m n), (.nil, ())) := by
  have h1 : m * n ≤ 256 := Nat.mul_le_mul hm.2 hn.2
  rw [List.take_length]
  exact mat_Turn_good hN (tensV_wide (by omega) (by omega) (by omega) hA fA) (by omega) hA

theorem Same_half {N : Nat} (hN : 20000 ≤ N) {sh : List Int} {w : Bool} {A : List Int} (hs : sh.length ≤ 10000) (hA : A.length ≤ 10000) : F_tens_Same N ((sh, w), List.take A.length A) ((List.take sh.length sh, w), List.take A.length A) = some (true, ()) := by
  rw [List.take_length, List.take_length]
  exact tens_Same_refl _ (by simp; omega) (by simp; omega) (by simp; omega) (by simp; omega)

theorem MatTurns_law {N : Nat} (hN : 20000 ≤ N) (m k n : Int) (l : List Int) (za zb : Int) : F_lodgelaw8_MatTurns N m k n l za zb = some (true, ()) := by
  obtain ⟨M, hM, eM⟩ := Number_nat (N := N) m 12 (by omega) (by omega)
  obtain ⟨K, hK, eK⟩ := Number_nat (N := N) k 12 (by omega) (by omega)
  obtain ⟨L, hL, eL⟩ := Number_nat (N := N) n 12 (by omega) (by omega)
  obtain ⟨A, hA, eA⟩ := Number_nat (N := N) za 256 (by omega) (by omega)
  obtain ⟨B, hB, eB⟩ := Number_nat (N := N) zb 256 (by omega) (by omega)
  have sM : wi64 ((M : Int) + 1) = ((M + 1 : Nat) : Int) := wi64_succ (by omega)
  have sK : wi64 ((K : Int) + 1) = ((K + 1 : Nat) : Int) := wi64_succ (by omega)
  have sL : wi64 ((L : Int) + 1) = ((L + 1 : Nat) : Int) := wi64_succ (by omega)
  have sA : wi64 ((A : Int) - 128) = (A : Int) - 128 := wi64_in (by omega) (by omega)
  have sB : wi64 ((B : Int) - 128) = (B : Int) - 128 := wi64_in (by omega) (by omega)
  have small : ∀ a b : Nat, a ≤ 16 → b ≤ 16 → a * b ≤ 256 := fun a b ha hb => Nat.mul_le_mul ha hb
  have p1 := small (M + 1) (K + 1) (by omega) (by omega)
  have p2 := small (K + 1) (L + 1) (by omega) (by omega)
  have p3 := small (M + 1) (L + 1) (by omega) (by omega)
  unfold F_lodgelaw8_MatTurns
  refine bnd _ (lodgelaw8_first_spec hN) ?_
  refine bF rfl ?_
  by_cases hl : l.length ≤ 40
  case neg => exact cT (by omega) rfl
  refine cF (by omega) ?_
  refine bF rfl ?_
  refine bnd _ eM ?_
  refine bnd _ eK ?_
  simp only [sM, sK]
  refine bnd _ (lodgelaw8_matrix_spec hN l (M + 1) (K + 1) (by omega)) ?_
  refine bnd _ eK ?_
  refine bnd _ eL ?_
  simp only [sL, sK]
  refine bnd _ (lodgeref_Ints_spec l (by omega) (by omega)) ?_
  refine cT (by simp) ?_
  refine cT (show (l.length + 1) * (8 + 1) ≤ most by unfold most; omega) ?_
  refine cT (by simp) ?_
  refine bnd _ (matrix_app hN l 5 (K + 1) (L + 1) (by omega)) ?_
  refine bnd _ eA ?_
  refine bnd _ eB ?_
  simp only [sA, sB]
  have lA : (matD l (M + 1) (K + 1)).length = (M + 1) * (K + 1) := matD_length _ _ _
  have lB : (matD (l ++ [5]) (K + 1) (L + 1)).length = (K + 1) * (L + 1) := matD_length _ _ _
  have iA := matD_in l (M + 1) (K + 1)
  have iB := matD_in (l ++ [5]) (K + 1) (L + 1)
  generalize matD l (M + 1) (K + 1) = AA at *
  generalize matD (l ++ [5]) (K + 1) (L + 1) = BB at *
  have tA := turnL_length AA (M + 1) (K + 1)
  have tB := turnL_length BB (K + 1) (L + 1)
  have jA := turnL_in (m := M + 1) (n := K + 1) (by omega) iA
  have jB := turnL_in (m := K + 1) (n := L + 1) (by omega) iB
  have hP := mul_turn (A := AA) (B := BB) (za := (A : Int) - 128) (zb := (B : Int) - 128) (m := M + 1) (k := K + 1) (n := L + 1) (by omega) (by omega) (by omega)
  have hTT := turn_turn lA
  have lP := mulL_length AA BB (A - 128) (B - 128) (M + 1) (K + 1) (L + 1)
  have iP := mulL_in AA BB (A - 128) (B - 128) (M + 1) (K + 1) (L + 1)
  have lTP := turnL_length (mulL AA BB (A - 128) (B - 128) (M + 1) (K + 1) (L + 1)) (M + 1) (L + 1)
  refine cT (by simp) ?_
  refine cT (by simp) ?_
  refine cT (by simp) ?_
  refine cT (by simp) ?_
  refine bnd _ (Mul_take hN (m := M + 1) (k := K + 1) (n := L + 1) (by omega) (by omega) (by omega) lA lB iA iB (by omega) (by omega)) ?_
  refine cT (by simp) ?_
  refine cT (by simp) ?_
  refine bnd _ (Turn_take hN (m := M + 1) (n := K + 1) (by omega) (by omega) lA iA) ?_
  refine cT (by simp) ?_
  refine cT (by simp) ?_
  refine bnd _ (Turn_take hN (m := K + 1) (n := L + 1) (by omega) (by omega) lB iB) ?_
  refine bF rfl ?_
  refine bF rfl ?_
  refine bF rfl ?_
  refine cT (by simp) ?_
  refine cT (by simp) ?_
  refine cT (by simp) ?_
  refine cT (by simp) ?_
  refine bnd _ (Mul_take hN (m := L + 1) (k := K + 1) (n := M + 1) (by omega) (by omega) (by omega) (by rw [tB, Nat.mul_comm]) (by rw [tA, Nat.mul_comm]) jB jA (by omega) (by omega)) ?_
  rw [hP]
  refine cT (by simp) ?_
  refine bnd _ (Turn_half hN (m := M + 1) (n := L + 1) (by omega) (by omega) lP iP) ?_
  refine cT (by simp) ?_
  refine cT (by simp) ?_
  refine bnd _ (Turn_take hN (m := K + 1) (n := M + 1) (by omega) (by omega) (by rw [tA, Nat.mul_comm]) jA) ?_
  rw [hTT]
  refine bT rfl ?_
  refine bT rfl ?_
  refine bT rfl ?_
  refine cT (by simp) ?_
  refine cT (by simp) ?_
  refine cT (by simp) ?_
  refine bnd _ (Same_half hN (sh := [((L + 1 : Nat) : Int), ((M + 1 : Nat) : Int)]) (A := turnL (mulL AA BB (A - 128) (B - 128) (M + 1) (K + 1) (L + 1)) (M + 1) (L + 1)) (by simp) (by omega)) ?_
  refine bT rfl ?_
  refine cT (by simp) ?_
  refine cT (by simp) ?_
  refine cT (by simp) ?_
  refine cT (by simp) ?_
  refine bnd _ (Same_take hN (sh := [((M + 1 : Nat) : Int), ((K + 1 : Nat) : Int)]) (A := AA) (by simp) (by omega)) ?_
  rfl

/-- the numbers of one on the diagonal, so far -/
def oneL (w i : Nat) : List Int := (List.range (w * w)).map fun p => if p / w = p % w ∧ p / w < i then 1 else 0

theorem diag_idx {w i : Nat} (hi : i < w) : i * w + i < w * w ∧ (i * w + i) / w = i ∧ (i * w + i) % w = i := by
  have : (i + 1) * w ≤ w * w := Nat.mul_le_mul_right w hi
  rw [Nat.add_mul] at this
  refine ⟨by omega, ?_, ?_⟩
  · rw [Nat.mul_comm, Nat.mul_add_div (by omega), Nat.div_eq_of_lt hi]; rfl
  · rw [Nat.mul_comm, Nat.mul_add_mod, Nat.mod_eq_of_lt hi]

theorem oneL_set {w i : Nat} (hi : i < w) : (oneL w i).set (i * w + i) 1 = oneL w (i + 1) := by
  obtain ⟨h1, h2, h3⟩ := diag_idx hi
  apply List.ext_getElem
  · simp [oneL]
  · intro p g1 g2
    simp only [oneL, List.getElem_set, List.getElem_map, List.getElem_range]
    by_cases h : i * w + i = p
    · subst h
      rw [if_pos rfl, h2, h3, if_pos ⟨rfl, by omega⟩]
    · rw [if_neg h]
      by_cases hd : p / w = p % w
      · have hne : p / w ≠ i := by
          intro he
          apply h
          have := Nat.div_add_mod p w
          rw [← hd, he, Nat.mul_comm] at this
          exact this
        by_cases hlt : p / w < i
        · rw [if_pos ⟨hd, hlt⟩, if_pos ⟨hd, by omega⟩]
        · rw [if_neg (by omega), if_neg (by omega)]
      · rw [if_neg (fun h => hd h.1), if_neg (fun h => hd h.1)]

theorem loop_Ones_0 (N : Nat) (za : Int) (a : List Int × (Bool × (List Int × Unit))) (sh : List Int) (b : Bool) {w : Nat} (hw : w ≤ 16) : ∀ (cnt i : Nat), i ≤ w → w < cnt + i →
    g_lodgelaw8_MatOnes_0 N cnt za a w (boxT sh b (oneL w i)) i = some (za, (a, ((w : Int), (boxT sh b (oneL w w), ()))))
  | 0, i, h, h' => by omega
  | cnt + 1, i, h, h' => by
    have hww : w * w ≤ 256 := Nat.mul_le_mul hw hw
    rw [g_lodgelaw8_MatOnes_0]
    simp only [cond_dec, Int.ofNat_lt, if_true]
    by_cases hi : i < w
    · obtain ⟨h1, h2, h3⟩ := diag_idx hi
      rw [if_pos hi, wi64_row (i := i) (k := w) (x := i) (by omega)]
      have hlen : (oneL w i).length = w * w := by simp [oneL]
      simp only [Int.natCast_nonneg, Int.toNat_natCast, Nat.zero_add, hlen, h1, if_true, List.length_set]
      rw [oneL_set hi, wi64_succ (by omega)]
      exact loop_Ones_0 N za a sh b hw cnt (i + 1) hi (by omega)
    · have : i = w := by omega
      subst this
      rw [if_neg hi]

theorem sumN_single {f : Nat → Int} {c : Nat} : ∀ {k : Nat}, (∀ x, x < k → x ≠ c → f x = 0) → sumN f k = if c < k then f c else 0
  | 0, _ => by simp [sumN]
  | k + 1, h => by
    simp only [sumN]
    rw [sumN_single (fun x hx hne => h x (by omega) hne)]
    by_cases h1 : c < k
    · rw [if_pos h1, if_pos (by omega), h k (by omega) (by omega), Int.add_zero]
    · rw [if_neg h1]
      by_cases h2 : c = k
      · subst h2
        rw [if_pos (by omega), Int.zero_add]
      · rw [if_neg (by omega), h k (by omega) (fun e => h2 e.symm), Int.add_zero]

/-- by the one: itself, wide -/
theorem mulC_one {A : List Int} {za : Int} {w p : Nat} (hw : 0 < w) (hA : -128 ≤ A.getD p 0 ∧ A.getD p 0 ≤ 127) (hza : -128 ≤ za ∧ za ≤ 127) : mulC A (oneL w w) za 0 w w p = A.getD p 0 - za := by
  have hc : p % w < w := Nat.mod_lt _ hw
  unfold mulC
  rw [sumN_single (c := p % w), if_pos hc]
  · unfold mulF
    have h1 : p / w * w + p % w = p := by rw [Nat.mul_comm]; exact Nat.div_add_mod p w
    obtain ⟨g1, g2, g3⟩ := diag_idx hc
    have h2 : (oneL w w).getD (p % w * w + p % w) 0 = 1 := by
      rw [getD_lt (by simpa [oneL] using g1)]
      simp [oneL, g2, g3, hc]
    rw [h1, h2, show (A.getD p 0 - za) * (1 - 0) = A.getD p 0 - za by omega]
    exact round32_in (by omega)
  · intro x hx hne
    unfold mulF
    have h2 : (oneL w w).getD (x * w + p % w) 0 = 0 := by
      have hlt : x * w + p % w < w * w := by
        have : (x + 1) * w ≤ w * w := Nat.mul_le_mul_right w hx
        rw [Nat.add_mul] at this
        omega
      rw [getD_lt (by simpa [oneL] using hlt)]
      have e1 : (x * w + p % w) / w = x := by rw [Nat.mul_comm, Nat.mul_add_div hw, Nat.div_eq_of_lt hc]; rfl
      have e2 : (x * w + p % w) % w = p % w := by rw [Nat.mul_comm, Nat.mul_add_mod, Nat.mod_mod]
      simp only [oneL, List.getElem_map, List.getElem_range, e1, e2]
      rw [if_neg (fun h => hne h.1)]
    rw [h2]
    omega

/-- by nothings: nothing -/
theorem mulC_zero {A : List Int} {za : Int} {k n p : Nat} {Z : List Int} (hZ : ∀ q, Z.getD q 0 = 0) : mulC A Z za 0 k n p = 0 := by
  unfold mulC
  rw [sumN_single (c := k) (fun x hx _ => by unfold mulF; rw [hZ]; omega), if_neg (by omega)]
  rfl

theorem matD_nil (m n q : Nat) : (matD [] m n).getD q 0 = 0 := by
  rcases Nat.lt_or_ge q (m * n) with h | h
  · rw [getD_lt (by rw [matD_length]; exact h)]
    simp [matD, matE]
  · rw [List.getD_eq_getElem?_getD, List.getElem?_eq_none (by rw [matD_length]; exact h)]
    rfl

theorem mulL_getD {A B : List Int} {za zb : Int} {m k n i : Nat} (h : i < m * n) : (mulL A B za zb m k n).getD i 0 = mulC A B za zb k n i := by
  rw [getD_lt (by rw [mulL_length]; exact h)]
  simp [mulL]

theorem MatTurns_row {N : Nat} (hN : 20000 ≤ N) (x : Val (rowTy ps_lodgelaw8_MatTurns)) (_ : FitsL ps_lodgelaw8_MatTurns x) : (c_lodgelaw8_MatTurns N).g x = some (true, ()) := MatTurns_law hN _ _ _ _ _ _

theorem loop_Ones_1 {N : Nat} {za : Int} (a one : T) (sp sq : List Int) (bp bq : Bool) (P Q : List Int) (hl : a.2.length ≤ 1000) (hP : P.length = a.2.length) (hQ : Q.length = a.2.length)
    (h1 : ∀ i, i < a.2.length → P.getD i 0 = wi64 (a.2.getD i 0 - za)) (h2 : ∀ i, i < a.2.length → Q.getD i 0 = 0) (h3 : ∀ i : Nat, i < a.2.length → F_mat_Cell N a one za 0 i = some (P.getD i 0, ())) : ∀ (cnt i : Nat), i ≤ a.2.length → a.2.length < cnt + i →
    g_lodgelaw8_MatOnes_1 N cnt za (a, ()) (one, ()) (boxT sp bp P) (boxT sq bq Q) i = some (.inl (za, ((a, ()), ((one, ()), ()))))
  | 0, i, h, h' => by omega
  | cnt + 1, i, h, h' => by
    rw [g_lodgelaw8_MatOnes_1]
    simp only [cond_dec, Int.ofNat_lt, Int.toNat_natCast, Int.natCast_nonneg, if_true, Nat.zero_add]
    by_cases hi : i < a.2.length
    · rw [if_pos hi, if_pos (by omega), if_pos (by omega), if_pos hi, if_neg (fun h => h (h1 i hi)), if_pos (by omega), if_pos (by omega), if_neg (fun h => h (h2 i hi)), h3 i hi]
      simp only [Option.bind_some]
      rw [if_pos (by omega), if_pos (by omega), if_neg (fun h => h rfl), wi64_succ (by omega)]
      exact loop_Ones_1 a one sp sq bp bq P Q hl hP hQ h1 h2 h3 cnt (i + 1) hi (by omega)
    · rw [if_neg hi]

theorem MatOnes_law {N : Nat} (hN : 20000 ≤ N) (m n : Int) (l : List Int) (za : Int) : F_lodgelaw8_MatOnes N m n l za = some (true, ()) := by
  obtain ⟨M, hM, eM⟩ := Number_nat (N := N) m 12 (by omega) (by omega)
  obtain ⟨L, hL, eL⟩ := Number_nat (N := N) n 12 (by omega) (by omega)
  obtain ⟨A, hA, eA⟩ := Number_nat (N := N) za 256 (by omega) (by omega)
  have sM : wi64 ((M : Int) + 1) = ((M + 1 : Nat) : Int) := wi64_succ (by omega)
  have sL : wi64 ((L : Int) + 1) = ((L + 1 : Nat) : Int) := wi64_succ (by omega)
  have sA : wi64 ((A : Int) - 128) = (A : Int) - 128 := wi64_in (by omega) (by omega)
  have small : ∀ a b : Nat, a ≤ 16 → b ≤ 16 → a * b ≤ 256 := fun a b ha hb => Nat.mul_le_mul ha hb
  have p1 := small (M + 1) (L + 1) (by omega) (by omega)
  have p2 := small (L + 1) (L + 1) (by omega) (by omega)
  unfold F_lodgelaw8_MatOnes
  refine bnd _ (lodgelaw8_first_spec hN) ?_
  refine bF rfl ?_
  by_cases hl : l.length ≤ 40
  case neg => exact cT (by omega) rfl
  refine cF (by omega) ?_
  refine bF rfl ?_
  refine bnd _ eM ?_
  refine bnd _ eL ?_
  simp only [sM, sL]
  refine bnd _ (lodgelaw8_matrix_spec hN l (M + 1) (L + 1) (by omega)) ?_
  refine bnd _ eA ?_
  simp only [sA]
  refine cT (by simp) ?_
  refine cT (by simp) ?_
  refine bnd _ (show F_lodgelaw8_matrix N ((L + 1 : Nat) : Int) ((L + 1 : Nat) : Int) [] = _ from lodgelaw8_matrix_spec hN [] (L + 1) (L + 1) (by omega)) ?_
  have hz : matD [] (L + 1) (L + 1) = oneL (L + 1) 0 := by
    unfold matD oneL
    apply List.map_congr_left
    intro p _
    simp [matE]
  rw [hz]
  refine cT (by simp) ?_
  refine cT (by simp) ?_
  refine cT (by simp) ?_
  refine cT (by simp) ?_
  have h0 := loop_Ones_0 N ((A : Int) - 128) (boxT [((M + 1 : Nat) : Int), ((L + 1 : Nat) : Int)] false (matD l (M + 1) (L + 1))) [((L + 1 : Nat) : Int), ((L + 1 : Nat) : Int)] false (w := L + 1) (by omega) N 0 (by omega) (by omega)
  rw [show ((0 : Nat) : Int) = 0 from rfl] at h0
  refine bnd _ h0 ?_
  have lA : (matD l (M + 1) (L + 1)).length = (M + 1) * (L + 1) := matD_length _ _ _
  have lO : (oneL (L + 1) (L + 1)).length = (L + 1) * (L + 1) := by simp [oneL]
  have iA := matD_in l (M + 1) (L + 1)
  have iO : ∀ x, x ∈ oneL (L + 1) (L + 1) → -128 ≤ x ∧ x ≤ 127 := by
    intro x hx
    simp only [oneL, List.mem_map] at hx
    obtain ⟨i, _, rfl⟩ := hx
    split <;> omega
  generalize hAA : matD l (M + 1) (L + 1) = AA at *
  refine cT (by simp) ?_
  refine cT (by simp) ?_
  refine cT (by simp) ?_
  refine cT (by simp) ?_
  refine bnd _ (Mul_take hN (m := M + 1) (k := L + 1) (n := L + 1) (by omega) (by omega) (by omega) lA lO iA iO (by omega) (by omega)) ?_
  refine bnd _ (lodgelaw8_matrix_spec hN [] (L + 1) (L + 1) (by omega)) ?_
  refine cT (by simp) ?_
  refine cT (by simp) ?_
  refine cT (by simp) ?_
  refine cT (by simp) ?_
  refine bnd _ (Mul_take hN (m := M + 1) (k := L + 1) (n := L + 1) (by omega) (by omega) (by omega) lA (matD_length _ _ _) iA (matD_in _ _ _) (by omega) (by omega)) ?_
  refine bF rfl ?_
  refine bF rfl ?_
  refine bF rfl ?_
  refine cT (by simp) ?_
  refine cT (by simp) ?_
  refine cT (by simp) ?_
  refine cT (by simp) ?_
  refine cT (by simp) ?_
  refine cT (by simp) ?_
  refine cT (by simp) ?_
  refine cT (by simp) ?_
  refine cT (by simp) ?_
  refine cT (by simp) ?_
  have hcell := fun i => mat_Cell_good hN (m := M + 1) (k := L + 1) (n := L + 1) (A := AA) (B := oneL (L + 1) (L + 1)) (za := (A : Int) - 128) (zb := 0) (by omega) (by omega) (by omega) (by omega) (by omega) (by omega) lA lO iA iO (by omega) (by omega) i
  have hp : ∀ i, i < AA.length → mulC AA (oneL (L + 1) (L + 1)) (A - 128) 0 (L + 1) (L + 1) i = AA.getD i 0 - (A - 128) := fun i hi => mulC_one (by omega) (getD_in iA i) (by omega)
  have t1 : List.take (List.length [((M + 1 : Nat) : Int), ((L + 1 : Nat) : Int)]) [((M + 1 : Nat) : Int), ((L + 1 : Nat) : Int)] = [((M + 1 : Nat) : Int), ((L + 1 : Nat) : Int)] := rfl
  have t2 : List.take (List.length [((L + 1 : Nat) : Int), ((L + 1 : Nat) : Int)]) [((L + 1 : Nat) : Int), ((L + 1 : Nat) : Int)] = [((L + 1 : Nat) : Int), ((L + 1 : Nat) : Int)] := rfl
  have h1 := loop_Ones_1 (N := N) (za := (A : Int) - 128) (([((M + 1 : Nat) : Int), ((L + 1 : Nat) : Int)], false), AA) (([((L + 1 : Nat) : Int), ((L + 1 : Nat) : Int)], false), oneL (L + 1) (L + 1)) [((M + 1 : Nat) : Int), ((L + 1 : Nat) : Int)] [((M + 1 : Nat) : Int), ((L + 1 : Nat) : Int)] true true
    (mulL AA (oneL (L + 1) (L + 1)) (A - 128) 0 (M + 1) (L + 1) (L + 1)) (mulL AA (matD [] (L + 1) (L + 1)) (A - 128) 0 (M + 1) (L + 1) (L + 1)) (by simp only; omega) (by rw [mulL_length]; exact lA.symm) (by rw [mulL_length]; exact lA.symm)
    (fun i hi => by
      have hi : i < AA.length := hi
      have := getD_in iA i
      show _ = wi64 (AA.getD i 0 - ((A : Int) - 128))
      rw [mulL_getD (by omega), hp i hi, wi64_in (by omega) (by omega)])
    (fun i hi => by
      have hi : i < AA.length := hi
      rw [mulL_getD (by omega), mulC_zero (matD_nil _ _)])
    (fun i hi => by
      have hi : i < AA.length := hi
      rw [hcell i, if_pos ⟨by omega, by omega⟩, mulL_getD (by omega)]
      rfl) N 0 (by omega) (by simp only; omega)
  rw [show ((0 : Nat) : Int) = 0 from rfl] at h1
  refine bnd _ (by rw [List.take_length, List.take_length, List.take_length, List.take_length]; exact h1) ?_
  refine bnd (0, ()) ?_ ?_
  · refine (hcell _).trans ?_
    rw [if_neg (by simp only; omega)]
  refine cT rfl ?_
  refine bnd (0, ()) ?_ rfl
  refine (hcell _).trans ?_
  rw [if_neg (by omega)]

theorem MatOnes_row {N : Nat} (hN : 20000 ≤ N) (x : Val (rowTy ps_lodgelaw8_MatOnes)) (_ : FitsL ps_lodgelaw8_MatOnes x) : (c_lodgelaw8_MatOnes N).g x = some (true, ()) := MatOnes_law hN _ _ _ _

end Go.Proofs.YtooocaciaflbdaaDoor.Lg
