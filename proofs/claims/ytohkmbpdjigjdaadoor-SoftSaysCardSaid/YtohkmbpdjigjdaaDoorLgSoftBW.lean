/-
  What the program's functions come to, in plain words.
-/
import Derived.Test.YtohkmbpdjigjdaaDoorLgSoftBS
namespace Go.Proofs.YtohkmbpdjigjdaaDoor.Lg
open Go Go.Eng Go.Proofs

theorem soft_first {N : Nat} (hN : N = 100000) : F_lodgelaw11_first N = some (true, ()) := by
  subst hN
  kernel_rfl

theorem res_soft2 {op : Int} (h : op = 16 ∨ op = 17) (a b : D) : resV op [] [a, b] = softRes op [a, b] := by
  unfold resV insN argN
  rcases h with rfl | rfl <;> simp

theorem res_soft1 {op : Int} (h : op = 19 ∨ op = 20) (a : D) : resV op [] [a] = softRes op [a] := by
  unfold resV insN argN
  rcases h with rfl | rfl <;> simp

theorem app_soft2 {op : Int} (h : op = 16 ∨ op = 17) (a b : T) : softApp op [a, b] = appV op [] [a, b] := by
  unfold softApp appV
  rw [show [a, b].map Prod.fst = [a.1, b.1] from rfl, res_soft2 h]

theorem app_soft1 {op : Int} (h : op = 19 ∨ op = 20) (a : T) : softApp op [a] = appV op [] [a] := by
  unfold softApp appV
  rw [show [a].map Prod.fst = [a.1] from rfl, res_soft1 h]

theorem elm_soft2 {op : Int} (h : op = 16 ∨ op = 17) (i : Int) (a b : T) : softElm op i [a, b] = elmV op [] i [a, b] := by
  unfold softElm elmV
  rw [show [a, b].map Prod.fst = [a.1, b.1] from rfl, res_soft2 h]

theorem elm_soft1 {op : Int} (h : op = 19 ∨ op = 20) (i : Int) (a : T) : softElm op i [a] = elmV op [] i [a] := by
  unfold softElm elmV
  rw [show [a].map Prod.fst = [a.1] from rfl, res_soft1 h]

theorem elm_soft0 {op : Int} (h : ¬ (op = 16 ∨ op = 17 ∨ op = 19 ∨ op = 20)) (i : Int) (ins : List T) : softElm op i ins = 0 := by
  unfold softElm
  split
  · rfl
  rw [if_pos]
  unfold softRes
  rw [if_pos h]
  simp

theorem SoftSays_law {N : Nat} (hN : 20000 ≤ N) (h1st : F_lodgelaw11_first N = some (true, ())) (a b : T) (op i : Int) : F_lodgelaw11_SoftSays N a b op i = some (true, ()) := by
  unfold F_lodgelaw11_SoftSays
  refine bnd _ h1st (bF rfl ?_)
  refine bnd (op, (i, ((a, ()), ((b, ()), (true, (!decide ((a.1.1.length : Int) ≤ 8 ∧ (a.2.length : Int) ≤ 300) || !decide ((b.1.1.length : Int) ≤ 8 ∧ (b.2.length : Int) ≤ 300), ())))))) ?_ ?_
  · refine bnd _ (lodgeworld_Tensor_spec N a 300) ?_
    cases decide ((a.1.1.length : Int) ≤ 8 ∧ (a.2.length : Int) ≤ 300)
    · exact bT rfl rfl
    refine bF rfl (bnd _ (lodgeworld_Tensor_spec N b 300) ?_)
    cases decide ((b.1.1.length : Int) ≤ 8 ∧ (b.2.length : Int) ≤ 300)
    · exact bT rfl rfl
    exact bF rfl rfl
  cases hB : (!decide ((a.1.1.length : Int) ≤ 8 ∧ (a.2.length : Int) ≤ 300) || !decide ((b.1.1.length : Int) ≤ 8 ∧ (b.2.length : Int) ≤ 300))
  case true => exact bT rfl rfl
  refine bF rfl ?_
  dsimp only
  have eA : (List.take (1 - (0 : Nat)) (List.drop ((0 : Nat) + (0 : Nat)) (a :: (b :: ([] : List T))))) = [a] := rfl
  refine bnd _ (soft_Softmax_spec hN a b) (bnd _ (soft_Gather_spec hN a b) (bnd _ (soft_ArgMax_spec hN a) (bnd _ (soft_Sum_spec hN a) ?_)))
  refine bnd _ (ref_Apply_all hN 16 [] (by simp) [a, b] (by simp)) (bnd _ (ref_Apply_all hN 17 [] (by simp) [a, b] (by simp)) ?_)
  refine bnd _ (ref_Apply_all hN 19 [] (by simp) [a] (by simp)) (bnd _ (ref_Apply_all hN 20 [] (by simp) [a] (by simp)) ?_)
  rw [app_soft2 (.inl rfl), app_soft2 (.inr rfl), app_soft1 (.inl rfl), app_soft1 (.inr rfl)]
  obtain ⟨l1, m1⟩ := appV_len 16 [] [a, b]
  obtain ⟨l2, m2⟩ := appV_len 17 [] [a, b]
  obtain ⟨l3, m3⟩ := appV_len 19 [] [a]
  obtain ⟨l4, m4⟩ := appV_len 20 [] [a]
  have o1 := appV_OK 16 [] [a, b]
  have o2 := appV_OK 17 [] [a, b]
  have o3 := appV_OK 19 [] [a]
  have o4 := appV_OK 20 [] [a]
  generalize appV 16 [] [a, b] = P at *
  generalize appV 17 [] [a, b] = Q at *
  generalize appV 19 [] [a] = R at *
  generalize appV 20 [] [a] = S at *
  refine bnd (op, (i, ((a, ()), ((b, ()), ([a, b], (false, ())))))) ?_ ?_
  · refine bnd _ (lodgesee_Same_self hN o1 rfl) (bF rfl (bnd _ (lodgesee_Same_self hN o2 rfl) (bF rfl (bnd _ (lodgesee_Same_self hN o3 rfl) (bF rfl (bnd _ (lodgesee_Same_self hN o4 rfl) (bF rfl ?_)))))))
    refine cT (by simp) (cT (by simp) (cT (by simp) (bnd _ (lodgeref_SameTensor_self (by simp) (by simp; omega) (by simp; omega) (by simp; omega) (by simp; omega)) (bF rfl ?_))))
    refine cT (by simp) (cT (by simp) (cT (by simp) (bnd _ (lodgeref_SameTensor_self (by simp) (by simp; omega) (by simp; omega) (by simp; omega) (by simp; omega)) (bF rfl ?_))))
    refine cT (by simp) (cT (by simp) (cT (by simp) (bnd _ (lodgeref_SameTensor_self (by simp) (by simp; omega) (by simp; omega) (by simp; omega) (by simp; omega)) (bF rfl ?_))))
    refine cT (by simp) (cT (by simp) (cT (by simp) (bnd _ (lodgeref_SameTensor_self (by simp) (by simp; omega) (by simp; omega) (by simp; omega) (by simp; omega)) rfl)))
  refine bF rfl ?_
  dsimp only
  refine bnd _ (soft_Result_spec hN op [a.1, b.1] (by simp)) (bnd _ (lodgeref3_SoftResult_spec hN op [a.1, b.1] (by simp)) (bnd _ (soft_Result_spec hN op [a.1] (by simp)) (bnd _ (lodgeref3_SoftResult_spec hN op [a.1] (by simp)) ?_)))
  have k1 := softRes_len op [a.1, b.1]
  have k2 := softRes_len op [a.1]
  have q1 := softRes_OK op [a.1, b.1]
  have q2 := softRes_OK op [a.1]
  have w1 := softRes_bare op [a.1, b.1]
  have w2 := softRes_bare op [a.1]
  generalize softRes op [a.1, b.1] = X at *
  generalize softRes op [a.1] = Y at *
  refine bnd (op, (i, ((a, ()), ((b, ()), ([a, b], (false, ())))))) ?_ ?_
  · refine bnd _ (lodgesee_Is_self hN q1 w1 rfl) (bF rfl (cT (by simp) (bnd _ (lodgeref_SameDesc_self (by simp) (by first | omega | (dsimp only; omega) | (simp; omega)) (by first | omega | (dsimp only; omega) | (simp; omega))) (bF rfl ?_))))
    refine bnd _ (lodgesee_Is_self hN q2 w2 rfl) (bF rfl (cT (by simp) (bnd _ (lodgeref_SameDesc_self (by simp) (by first | omega | (dsimp only; omega) | (simp; omega)) (by first | omega | (dsimp only; omega) | (simp; omega))) ?_)))
    exact cT rfl rfl
  refine bF rfl ?_
  dsimp only
  refine bnd (op, (i, ((a, ()), ((b, ()), ([a, b], (decide (op = 16 ∨ op = 17), ())))))) ?_ ?_
  · by_cases h : op = 16
    · refine cT h (cT rfl ?_)
      rw [decide_eq_true (p := _ ∨ _) (.inl h)]
    · refine cF h (cT rfl ?_)
      rw [show decide (op = 16 ∨ op = 17) = decide (op = 17) from decide_eq_decide.2 ⟨fun x => x.resolve_left h, .inr⟩]
  by_cases h2 : op = 16 ∨ op = 17
  · refine bT (decide_eq_true h2) (bnd _ (soft_Cell_spec hN op i [a, b] (by simp)) (cT (by simp) ?_))
    have hm : List.take [a, b].length [a, b] = [a, b] := List.take_length
    dsimp only
    rw [hm]
    refine bnd _ (ref_Element_all hN op [] (by simp) i [a, b] (by simp)) ?_
    rw [elm_soft2 h2]
    simp
  refine bF (decide_eq_false h2) ?_
  refine bnd (op, (i, ((a, ()), ((b, ()), ([a, b], (decide (op = 19 ∨ op = 20), ())))))) ?_ ?_
  · by_cases h : op = 19
    · refine cT h (cT rfl ?_)
      rw [decide_eq_true (p := _ ∨ _) (.inl h)]
    · refine cF h (cT rfl ?_)
      rw [show decide (op = 19 ∨ op = 20) = decide (op = 20) from decide_eq_decide.2 ⟨fun x => x.resolve_left h, .inr⟩]
  by_cases h1 : op = 19 ∨ op = 20
  · refine bT (decide_eq_true h1) (bnd _ (soft_Cell_spec hN op i [a] (by simp)) (cT (by simp) (cT (by simp) ?_)))
    refine bnd _ (ref_Element_all hN op [] (by simp) i [a] (by simp)) ?_
    rw [elm_soft1 h1]
    simp
  refine bF (decide_eq_false h1) (bnd _ (soft_Cell_spec hN op i [a, b] (by simp)) ?_)
  rw [elm_soft0 (by omega)]
  rfl

theorem SoftSays_row {N : Nat} (hN : N = 100000) (x : Val (rowTy ps_lodgelaw11_SoftSays)) (_ : FitsL ps_lodgelaw11_SoftSays x) : (c_lodgelaw11_SoftSays N).g x = some (true, ()) := by
  have h1 := soft_first hN
  exact SoftSays_law (by omega) h1 _ _ _ _

end Go.Proofs.YtohkmbpdjigjdaaDoor.Lg
