/-
  What the program's functions come to, in plain words.
-/
import Derived.Test.YtbpifndhkdbmhaaDoorLgConvP
import Derived.Test.YtbpifndhkdbmhaaDoorLgEngZc
import Derived.KernelRfl
namespace Go.Proofs.YtbpifndhkdbmhaaDoor.Lg
open Go Go.Eng Go.Proofs

theorem first_100 : F_lodgelaw9_first 100000 = some (true, ()) := by kernel_rfl

/-- the places from one to below another one, as far as below a third one -/
def inL (A B d : Nat) : List Int := (List.range (min d B - A)).map fun i => ((A + i : Nat) : Int)

theorem inL_step {A B d : Nat} (h : A ≤ d ∧ d < B) : inL A B d ++ [(d : Int)] = inL A B (d + 1) := by
  unfold inL
  have e1 : min d B - A = d - A := by omega
  have e2 : min (d + 1) B - A = (d - A) + 1 := by omega
  rw [e1, e2, List.range_succ, List.map_append]
  congr 1
  simp only [List.map_cons, List.map_nil, List.cons.injEq, and_true]
  omega

theorem inL_skip {A B d : Nat} (h : ¬ (A ≤ d ∧ d < B)) : inL A B (d + 1) = inL A B d := by
  unfold inL
  have : min (d + 1) B - A = min d B - A := by omega
  rw [this]

theorem loop_ConvInside (N : Nat) {n s p o f t : Int} {k A B : Nat} (hk : k ≤ 40) (hA : A ≤ B) (hB : B ≤ k) (hos : 0 ≤ o * s ∧ o * s ≤ 1600) (hp : 0 ≤ p ∧ p ≤ 40)
    (hi : ∀ d : Nat, d < k → ((A ≤ d ∧ d < B) ↔ (0 ≤ o * s - p + d ∧ o * s - p + d < n))) : ∀ (cnt d : Nat), d ≤ k → k < cnt + d →
    g_lodgelaw9_ConvInside_0 N cnt n k s p o f t (inL A B d) d = some (f, (t, (inL A B k, ())))
  | 0, d, h, h' => by omega
  | cnt + 1, d, h, h' => by
    rw [g_lodgelaw9_ConvInside_0]
    have e0 : wi64 (o * s) = o * s := wi64_in (by omega) (by omega)
    have e1 : wi64 (o * s - p) = o * s - p := wi64_in (by omega) (by omega)
    have e2 : wi64 (o * s - p + d) = o * s - p + d := wi64_in (by omega) (by omega)
    have hlen : (inL A B d).length = min d B - A := by simp [inL]
    simp only [cond_dec, Int.ofNat_lt, if_true, e0, e1, e2, Nat.zero_add]
    by_cases hd : d < k
    · rw [if_pos hd, wi64_succ (by omega)]
      by_cases hin : A ≤ d ∧ d < B
      · obtain ⟨h1, h2⟩ := (hi d hd).1 hin
        rw [if_pos h1, if_pos h2, if_pos (by unfold most; omega), if_pos (by simp), List.take_length, inL_step hin]
        exact loop_ConvInside N hk hA hB hos hp hi cnt (d + 1) hd (by omega)
      · have hno : ¬ (0 ≤ o * s - p + d ∧ o * s - p + d < n) := fun h => hin ((hi d hd).2 h)
        have ih := loop_ConvInside (f := f) (t := t) N hk hA hB hos hp hi cnt (d + 1) hd (by omega)
        rw [inL_skip hin] at ih
        by_cases h1 : 0 ≤ o * s - p + d
        · rw [if_pos h1, if_neg (fun h => hno ⟨h1, h⟩)]
          exact ih
        · rw [if_neg h1]
          exact ih
    · have : d = k := by omega
      subst this
      rw [if_neg hd]

theorem ConvInside_law (n k s p o : Int) : F_lodgelaw9_ConvInside 100000 n k s p o = some (true, ()) := by
  unfold F_lodgelaw9_ConvInside
  refine bnd _ first_100 ?_
  refine bF rfl ?_
  by_cases g1 : 40 < n
  · exact cT g1 rfl
  refine cF g1 ?_
  by_cases g2 : 40 < k
  · exact cT g2 rfl
  refine cF g2 ?_
  by_cases g3 : 40 < s
  · exact cT g3 rfl
  refine cF g3 ?_
  by_cases g4 : 40 < p
  · exact cT g4 rfl
  refine cF g4 ?_
  by_cases g5 : 40 < o
  · exact cT g5 rfl
  refine cF g5 ?_
  refine bF rfl ?_
  have zero : n < 0 ∨ p < 0 ∨ o < 0 ∨ k < 1 ∨ n < 1 ∨ s < 1 → ∀ r, r = some (true, ()) → cond (decide ((0 : Int) ≤ 0)) (cond (decide ((0 : Int) ≤ 0)) (some (decide ((0 : Int) ≤ imax k 0), ())) (some (false, ()))) (some (false, ())) = r := by
    intro _ r hr
    rw [hr, imax_eq]
    have : (0 : Int) ≤ max k 0 := by omega
    simp [this]
  by_cases hz : n < 0 ∨ p < 0 ∨ o < 0 ∨ k < 1 ∨ n < 1 ∨ s < 1
  · refine bnd _ (conv_Inside_zero 100000 n k s p o hz) ?_
    by_cases h1 : n < 0
    · exact cT h1 (zero hz _ rfl)
    refine cF h1 ?_
    by_cases h2 : k < 1
    · exact cT h2 (zero hz _ rfl)
    refine cF h2 ?_
    by_cases h3 : s < 1
    · exact cT h3 (zero hz _ rfl)
    refine cF h3 ?_
    by_cases h4 : p < 0
    · exact cT h4 (zero hz _ rfl)
    refine cF h4 ?_
    by_cases h5 : o < 0
    · exact cT h5 (zero hz _ rfl)
    refine cF h5 ?_
    exact cT (by omega) (zero hz _ rfl)
  · have hos : 0 ≤ o * s ∧ o * s ≤ 40 * 40 := ⟨Int.mul_nonneg (by omega) (by omega), Int.mul_le_mul (by omega) (by omega) (by omega) (by omega)⟩
    refine bnd _ (conv_Inside_ab 100000 n k s p o (by omega) (by omega) (by omega) (by omega) (by omega)) ?_
    refine cF (by omega) ?_
    refine cF (by omega) ?_
    refine cF (by omega) ?_
    refine cF (by omega) ?_
    refine cF (by omega) ?_
    refine cF (by omega) ?_
    obtain ⟨b1, b2, b3⟩ := ins_bounds n k s p o (by omega)
    have hii := ins_iff n k s p o
    have hz0 : insA n k s p o = insB n k s p o → insA n k s p o = 0 := by
      unfold insA insB
      split
      · intro _; rfl
      · intro h; omega
    obtain ⟨K, hK⟩ : ∃ K : Nat, k = (K : Int) := ⟨k.toNat, by omega⟩
    obtain ⟨A, hA⟩ : ∃ A : Nat, insA n k s p o = (A : Int) := ⟨(insA n k s p o).toNat, by omega⟩
    obtain ⟨B, hB⟩ : ∃ B : Nat, insB n k s p o = (B : Int) := ⟨(insB n k s p o).toNat, by omega⟩
    simp only [hA, hB] at b2 b3 hii hz0 ⊢
    subst hK
    have h0 := loop_ConvInside (f := (A : Int)) (t := (B : Int)) 100000 (n := n) (s := s) (p := p) (o := o) (k := K) (A := A) (B := B) (by omega) (by omega) (by omega) (by omega) (by omega) (fun d hd => by
      have := hii d (by omega)
      rw [← this]
      omega) 100000 0 (by omega) (by omega)
    have hin0 : inL A B 0 = [] := by simp [inL]
    rw [hin0, show ((0 : Nat) : Int) = 0 from rfl] at h0
    refine bnd _ h0 ?_
    have hlen : (inL A B K).length = B - A := by simp [inL]; omega
    by_cases he : A = B
    · refine cT (by simp only; omega) ?_
      have := hz0 (by omega)
      refine cT (by simp only; omega) ?_
      have hb : ((B : Int) = 0) := by omega
      simp [hb]
    · refine cF (by simp only; omega) ?_
      refine cT (by simp only; omega) ?_
      refine cT (by simp only; omega) ?_
      have g0 : (inL A B K).getD 0 0 = (A : Int) := by
        rw [getD_lt (by omega)]
        simp [inL]
      have g1 : (inL A B K).getD (B - A - 1) 0 = ((B - 1 : Nat) : Int) := by
        rw [getD_lt (by omega)]
        simp only [inL, List.getElem_map, List.getElem_range]
        omega
      have e1 : wi64 (((inL A B K).length : Int) - 1) = ((B - A - 1 : Nat) : Int) := by
        rw [hlen, wi64_in (by omega) (by omega)]
        omega
      refine cT (by simp only [Nat.zero_add]; exact g0.symm) ?_
      simp only [e1, Int.toNat_natCast, Nat.zero_add, g1]
      refine cT (by omega) ?_
      refine cT (by omega) ?_
      refine cT (by omega) ?_
      have e2 : wi64 (((B - 1 : Nat) : Int) + 1) = (B : Int) := by
        rw [wi64_in (by omega) (by omega)]
        omega
      rw [e2]
      simp

theorem ConvInside_row {N : Nat} (hN : N = 100000) (x : Val (rowTy ps_lodgelaw9_ConvInside)) (_ : FitsL ps_lodgelaw9_ConvInside x) : (c_lodgelaw9_ConvInside N).g x = some (true, ()) := by
  subst hN
  exact ConvInside_law _ _ _ _ _

end Go.Proofs.YtbpifndhkdbmhaaDoor.Lg
