/-
  What the program's functions come to, in plain words.
-/
import Derived.Test.YtnblnlanicpagaaDoorLgOpAW
namespace Go.Proofs.YtnblnlanicpagaaDoor.Lg
open Go Go.Eng Go.Proofs

theorem op_first {N : Nat} (hN : N = 100000) : F_lodgelaw12_first N = some (true, ()) := by
  subst hN
  kernel_rfl

theorem isNilT {e : Er} (h : e = .nil) : e.isNil = true := by rw [h]; rfl

theorem OpUnits_law {N : Nat} (hN : 20000 ≤ N) (h1st : F_lodgelaw12_first N = some (true, ())) (m0 k0 n0 : Int) : F_lodgelaw12_OpUnits N m0 k0 n0 = some (true, ()) := by
  obtain ⟨m1, hm1, em⟩ := Number_nat (N := N) m0 20 (by omega) (by omega)
  obtain ⟨k1, hk1, ek⟩ := Number_nat (N := N) k0 20 (by omega) (by omega)
  obtain ⟨n1, hn1, en⟩ := Number_nat (N := N) n0 20 (by omega) (by omega)
  unfold F_lodgelaw12_OpUnits
  refine bnd _ h1st (bF rfl ?_)
  refine bnd _ em (bnd _ ek (bnd _ en ?_))
  dsimp only
  have sm : wi64 ((m1 : Int) + 1) = ((m1 + 1 : Nat) : Int) := wi64_succ (by omega)
  have sk : wi64 ((k1 : Int) + 1) = ((k1 + 1 : Nat) : Int) := wi64_succ (by omega)
  have sn : wi64 ((n1 : Int) + 1) = ((n1 + 1 : Nat) : Int) := wi64_succ (by omega)
  rw [sm, sk, sn]
  obtain ⟨m, em'⟩ : ∃ m, m1 + 1 = m := ⟨_, rfl⟩
  obtain ⟨k, ek'⟩ : ∃ k, k1 + 1 = k := ⟨_, rfl⟩
  obtain ⟨n, en'⟩ : ∃ n, n1 + 1 = n := ⟨_, rfl⟩
  rw [em', ek', en']
  have hm : 1 ≤ m ∧ m ≤ 20 := by omega
  have hk : 1 ≤ k ∧ k ≤ 20 := by omega
  have hn : 1 ≤ n ∧ n ≤ 20 := by omega
  have p1 : m * k ≤ 20 * 20 := Nat.mul_le_mul hm.2 hk.2
  have p2 : k * n ≤ 20 * 20 := Nat.mul_le_mul hk.2 hn.2
  have p3 : m * n ≤ 20 * 20 := Nat.mul_le_mul hm.2 hn.2
  obtain ⟨a, ea⟩ : ∃ a : Nat, imin ((m : Nat) : Int) 9 = (a : Int) := ⟨min m 9, by unfold imin; split <;> omega⟩
  obtain ⟨b, eb⟩ : ∃ b : Nat, imin ((k : Nat) : Int) 9 = (b : Int) := ⟨min k 9, by unfold imin; split <;> omega⟩
  obtain ⟨c, ec⟩ : ∃ c : Nat, imin ((m : Nat) : Int) 16 = (c : Int) := ⟨min m 16, by unfold imin; split <;> omega⟩
  have ha : 1 ≤ a ∧ a ≤ 9 := by unfold imin at ea; split at ea <;> omega
  have hb : 1 ≤ b ∧ b ≤ 9 := by unfold imin at eb; split at eb <;> omega
  have hc : 1 ≤ c ∧ c ≤ 16 := by unfold imin at ec; split at ec <;> omega
  rw [ea, eb, ec]
  have q1 : a * b ≤ 9 * 9 := Nat.mul_le_mul ha.2 hb.2
  have q2 : a * b * n ≤ 81 * 20 := Nat.mul_le_mul q1 hn.2
  have q3 : 20 * 20 * n ≤ 20 * 20 * 20 := Nat.mul_le_mul (Nat.le_refl _) hn.2
  have s2 : shapeV [(m : Int), (k : Int)] = .nil := shapeV_two (by omega) (by omega) (by omega)
  have s3 : shapeV [(k : Int), (n : Int)] = .nil := shapeV_two (by omega) (by omega) (by omega)
  have s4 : shapeV [(m : Int), (n : Int)] = .nil := shapeV_two (by omega) (by omega) (by omega)
  have s5 : shapeV [((20 : Nat) : Int), ((20 : Nat) : Int), (n : Int)] = .nil := shapeV_three (by omega) (by omega) (by omega) (by omega)
  have s6 : shapeV [(a : Int), (b : Int), (n : Int), ((1 : Nat) : Int)] = .nil := shapeV_four (by omega) (by omega) (by omega) (by omega) (by omega)
  have s7 : shapeV [(m : Int)] = .nil := by
    rw [shapeV_nil]
    refine ⟨by simp, ?_, ?_⟩
    · simp [badDim]; omega
    · simp [overs]; omega
  rw [show ((20 : Nat) : Int) = 20 from rfl] at s5
  rw [show ((1 : Nat) : Int) = 1 from rfl] at s6
  have r1 : (resV 12 [0, 0] [([(m : Int), (k : Int)], false), ([(k : Int), (n : Int)], false)]).2 = .nil := by
    have e : resV 12 [0, 0] [([(m : Int), (k : Int)], false), ([(k : Int), (n : Int)], false)] = matRes 0 0 ([(m : Int), (k : Int)], false) ([(k : Int), (n : Int)], false) := by
      unfold resV
      rw [if_neg (by simp), if_neg (by simp), if_neg (by simp [insN, argN]), if_pos rfl]
      rfl
    rw [e]
    unfold matRes
    rw [ifNT (nilT s2), ifNT (nilT s3), if_neg (by simp), if_neg (by simp [narrowB])]
    rw [show [[(m : Int), (k : Int)].getD 0 0, [(k : Int), (n : Int)].getD 1 0] = [(m : Int), (n : Int)] from rfl, ifT (nilT s4)]
  have r2 : (resV 13 [1, 0, 0] [([20, 20, (n : Int)], false), ([(a : Int), (b : Int), (n : Int), 1], false)]).2 = .nil := by
    change (convRes [1, 0, 0] ([20, 20, (n : Int)], false) ([(a : Int), (b : Int), (n : Int), 1], false)).2 = .nil
    have s8 : shapeV (convSh 1 0 [20, 20, (n : Int)] [(a : Int), (b : Int), (n : Int), 1]) = .nil := by
      unfold convSh
      simp only [List.getD_cons_zero, List.getD_cons_succ]
      have := shapeV_three (a := 20 - a + 1) (b := 20 - b + 1) (c := 1) (by omega) (by omega) (by omega) (by
        have := Nat.mul_le_mul (show 20 - a + 1 ≤ 20 by omega) (show 20 - b + 1 ≤ 20 by omega)
        omega)
      have e1 : (20 + 2 * 0 - (a : Int)) / 1 + 1 = ((20 - a + 1 : Nat) : Int) := by omega
      have e2 : (20 + 2 * 0 - (b : Int)) / 1 + 1 = ((20 - b + 1 : Nat) : Int) := by omega
      rw [e1, e2]
      exact this
    unfold convRes
    rw [if_neg (by simp), ifNT (nilT s5), ifNT (nilT s6), if_neg (by simp), if_neg (by decide), if_neg (by simp only [List.getD_cons_zero, List.getD_cons_succ]; omega)]
    simp only [List.getD_cons_zero, List.getD_cons_succ]
    rw [ifT (nilT s8)]
  have r3 : (resV 14 [(c : Int), 1] [([20, 20, (n : Int)], false)]).2 = .nil := by
    change (poolRes [(c : Int), 1] ([20, 20, (n : Int)], false)).2 = .nil
    unfold poolRes
    rw [if_neg (by simp), ifNT (nilT s5), if_neg (by simp), if_neg (by simp only [List.getD_cons_zero, List.getD_cons_succ]; omega), if_neg (by simp only [List.getD_cons_zero, List.getD_cons_succ]; omega)]
  have r4 : (resV 20 [] [([(m : Int), (k : Int)], false)]).2 = .nil := by
    change (softRes 20 [([(m : Int), (k : Int)], false)]).2 = .nil
    have hf : firstBad [([(m : Int), (k : Int)], false)] = .nil := by
      unfold firstBad firstBad
      rw [ifT (nilT s2)]
    unfold softRes
    rw [if_neg (by decide), if_neg (by simp [softK]), ifNT (nilT hf), if_neg (by decide), if_neg (by decide), if_neg (by simp)]
  have r5 : (resV 4 [] [([(m : Int), (k : Int)], false), ([(m : Int), (k : Int)], false)]).2 = .nil := by
    change (elemRes 4 [] [([(m : Int), (k : Int)], false), ([(m : Int), (k : Int)], false)]).2 = .nil
    have hf : firstBad [([(m : Int), (k : Int)], false), ([(m : Int), (k : Int)], false)] = .nil := by
      unfold firstBad firstBad firstBad
      rw [ifT (nilT s2), ifT (nilT s2)]
    unfold elemRes
    rw [if_neg (by decide), if_neg (by simp [elN, elK]), ifNT (nilT hf), if_neg (by simp), if_neg (by simp [elFair])]
  have r6 : (resV 10 [1, 1, 1] [([(m : Int)], true)]).2 = .nil := by
    change (elemRes 10 [1, 1, 1] [([(m : Int)], true)]).2 = .nil
    have hf : firstBad [([(m : Int)], true)] = .nil := by
      unfold firstBad firstBad
      rw [ifT (nilT s7)]
    unfold elemRes
    rw [if_neg (by decide), if_neg (by simp [elN, elK]), ifNT (nilT hf), if_neg (by simp [elK]), if_neg (by simp [elFair, narrowB])]
  refine bnd _ (op_Unit_spec hN 12 [0, 0] (by simp) _ (by simp)) (bnd _ (op_Unit_spec hN 13 [1, 0, 0] (by simp) _ (by simp)) (bnd _ (op_Unit_spec hN 14 [(c : Int), 1] (by simp) _ (by simp)) (bnd _ (op_Unit_spec hN 20 [] (by simp) _ (by simp)) (bnd _ (op_Unit_spec hN 4 [] (by simp) _ (by simp)) (bnd _ (op_Unit_spec hN 10 [1, 1, 1] (by simp) _ (by simp)) ?_)))))
  unfold unitR
  rw [if_pos r1, if_pos r2, if_pos r3, if_pos r4, if_pos r5, if_pos r6]
  refine bT rfl (bT (isNilT r1) (bT (isNilT r2) (bT (isNilT r3) (bT (isNilT r4) (bT (isNilT r5) (bT (isNilT r6) ?_))))))
  refine cT ?_ (cT ?_ (cT ?_ (cT ?_ (cT ?_ ?_))))
  all_goals simp [unitV, noD]

theorem OpUnits_row {N : Nat} (hN : N = 100000) (x : Val (rowTy ps_lodgelaw12_OpUnits)) (_ : FitsL ps_lodgelaw12_OpUnits x) : (c_lodgelaw12_OpUnits N).g x = some (true, ()) := by
  have h1 := op_first hN
  exact OpUnits_law (by omega) h1 _ _ _

end Go.Proofs.YtnblnlanicpagaaDoor.Lg
