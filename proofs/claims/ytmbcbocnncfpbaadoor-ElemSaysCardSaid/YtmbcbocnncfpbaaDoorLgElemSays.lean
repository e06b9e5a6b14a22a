/-
  What the program's functions come to, in plain words.
-/
import Derived.Test.YtmbcbocnncfpbaaDoorLgElemBW2
namespace Go.Proofs.YtmbcbocnncfpbaaDoor.Lg
open Go Go.Eng Go.Proofs

theorem ifE {α : Type} {x y : Er} {a b : α} (h : x = y) : (if x ≠ y then a else b) = b := if_neg (fun n => n h)

theorem app_elem {op : Int} {args : List Int} {ins : List T} (h : 4 ≤ op ∧ op ≤ 11) : appV op args ins = elemApp op args ins := by
  unfold appV elemApp
  have e : resV op args (ins.map Prod.fst) = elemRes op args (ins.map Prod.fst) := by
    unfold resV
    rw [if_neg (by omega), if_pos h.2]
  rw [e]
  by_cases hv : firstBadT ins = .nil
  case neg => rw [if_pos hv, if_pos hv]
  rw [ifE hv, ifE hv]
  by_cases hr : (elemRes op args (ins.map Prod.fst)).2 = .nil
  case neg => rw [if_pos hr, if_pos hr]
  rw [ifE hr, ifE hr]
  obtain ⟨p1, p2, p3, p4⟩ := elem_lens hr hv
  obtain ⟨_, _, _, _, _, _, _, _, e9⟩ := elemRes_ok hr
  have hl : elems (elemRes op args (ins.map Prod.fst)).1.1 = ((ins.getD 0 (([], false), [])).2.length : Int) := by
    rw [e9, p3, ← tensV_len p2]
  rw [hl, Int.toNat_natCast]
  congr 2
  apply List.map_congr_left
  intro i _
  unfold elAll
  rw [if_pos h.2]

theorem elemApp_out {op : Int} {args : List Int} {ins : List T} (h : ¬ (4 ≤ op ∧ op ≤ 11)) : elemApp op args ins = ((noD, []), if firstBadT ins ≠ .nil then firstBadT ins else .s ErrKind) := by
  unfold elemApp
  have e : elemRes op args (ins.map Prod.fst) = (noD, .s ErrKind) := by
    unfold elemRes
    rw [if_pos h]
  rw [e]
  by_cases hv : firstBadT ins = .nil
  case neg => rw [if_pos hv, if_pos hv]
  rw [ifE hv, ifE hv]
  rfl

theorem elemApp_len (op : Int) (args : List Int) (ins : List T) : (elemApp op args ins).1.1.1.length ≤ 4 ∧ (elemApp op args ins).1.2.length ≤ 16384 := by
  by_cases h : 4 ≤ op ∧ op ≤ 11
  · rw [← app_elem h]
    exact appV_len op args ins
  · rw [elemApp_out h]
    simp [noD]

theorem ElemSays_law {N : Nat} (hN : 20000 ≤ N) (h1st : F_lodgelaw7_first N = some (true, ())) (op : Int) (a b : T) (args : List Int) : F_lodgelaw7_ElemSays N op a b args = some (true, ()) := by
  unfold F_lodgelaw7_ElemSays
  refine bnd _ h1st (bF rfl ?_)
  refine bnd (op, (args, ((a, ()), ((b, ()), (true, (!decide ((a.1.1.length : Int) ≤ 8 ∧ (a.2.length : Int) ≤ 300) || !decide ((b.1.1.length : Int) ≤ 8 ∧ (b.2.length : Int) ≤ 300) || decide ((10 : Int) < args.length), ())))))) ?_ ?_
  · refine bnd _ (lodgeworld_Tensor_spec N a 300) ?_
    cases decide ((a.1.1.length : Int) ≤ 8 ∧ (a.2.length : Int) ≤ 300)
    · exact bT rfl rfl
    refine bF rfl (bnd _ (lodgeworld_Tensor_spec N b 300) ?_)
    cases decide ((b.1.1.length : Int) ≤ 8 ∧ (b.2.length : Int) ≤ 300)
    · exact bT rfl rfl
    refine bF rfl ?_
    by_cases hl : (10 : Int) < args.length
    · refine cT hl ?_
      rw [decide_eq_true hl]
      rfl
    · refine cF hl ?_
      rw [decide_eq_false hl]
      rfl
  cases hB : (!decide ((a.1.1.length : Int) ≤ 8 ∧ (a.2.length : Int) ≤ 300) || !decide ((b.1.1.length : Int) ≤ 8 ∧ (b.2.length : Int) ≤ 300) || decide ((10 : Int) < args.length))
  case true => exact bT rfl rfl
  refine bF rfl ?_
  have hargs : args.length ≤ 10 := by
    simp only [Bool.or_eq_false_iff, decide_eq_false_iff_not] at hB
    omega
  dsimp only
  refine bnd _ (elem_Two_spec hN op a b) (bnd _ (elem_One_spec hN op a args) (bnd _ (ref_Apply_all hN op [] (by simp) [a, b] (by simp)) (bnd _ (ref_Apply_all hN op args (by omega) [a] (by simp)) ?_)))
  obtain ⟨l1, l2⟩ := elemApp_len op [] [a, b]
  obtain ⟨l3, l4⟩ := elemApp_len op args [a]
  have o1 := elemApp_OK op [] [a, b]
  have o2 := elemApp_OK op args [a]
  by_cases hop : 4 ≤ op ∧ op ≤ 11
  · rw [app_elem hop, app_elem hop]
    generalize elemApp op [] [a, b] = P at *
    generalize elemApp op args [a] = Q at *
    refine bnd ((a, ()), ((b, ()), (boxT P.1.1.1 P.1.1.2 P.1.2, (P.2, (boxT Q.1.1.1 Q.1.1.2 Q.1.2, (Q.2, (boxT P.1.1.1 P.1.1.2 P.1.2, ((faultE P.2, ()), (boxT Q.1.1.1 Q.1.1.2 Q.1.2, ((faultE Q.2, ()), (false, ()))))))))))) ?_ ?_
    · refine cF (by omega) ?_
      (repeat first | refine cT rfl ?_ | refine cT True.intro ?_)
      rw [decide_eq_false (by omega)]
    refine bF rfl ?_
    refine bnd _ (lodgesee_Same_self hN o1 rfl) (bT rfl (cT (by simp) (cT (by simp) (cT (by simp) (cT (by simp) ?_)))))
    refine bnd _ (lodgeref_SameTensor_self (by simp) (by simp; omega) (by simp; omega) (by simp; omega) (by simp; omega)) (bT rfl ?_)
    refine bnd _ (lodgesee_Same_self hN o2 rfl) (bT rfl (cT (by simp) (cT (by simp) (cT (by simp) (cT (by simp) ?_)))))
    exact bnd _ (lodgeref_SameTensor_self (by simp) (by simp; omega) (by simp; omega) (by simp; omega) (by simp; omega)) rfl
  · rw [elemApp_out hop, elemApp_out hop] at *
    generalize appV op [] [a, b] = X at *
    generalize appV op args [a] = Y at *
    refine bnd ((a, ()), ((b, ()), (boxT [] false [], ((if firstBadT [a, b] ≠ .nil then firstBadT [a, b] else .s ErrKind), (boxT [] false [], ((if firstBadT [a] ≠ .nil then firstBadT [a] else .s ErrKind), (boxT X.1.1.1 X.1.1.2 X.1.2, ((faultE X.2, ()), (boxT Y.1.1.1 Y.1.1.2 Y.1.2, ((faultE Y.2, ()), (true, ()))))))))))) ?_ ?_
    · by_cases h4 : op < 4
      · refine cT h4 ?_
        (repeat first | refine cT rfl ?_ | refine cT True.intro ?_)
        rfl
      · refine cF h4 ?_
        (repeat first | refine cT rfl ?_ | refine cT True.intro ?_)
        rw [decide_eq_true (by omega)]
        rfl
    refine bT rfl (bnd _ (lodgeref3_Valid_spec hN a) (bnd _ (lodgeref3_Valid_spec hN b) ?_))
    by_cases va : tensV a = .nil
    case neg =>
      have f1 : firstBadT [a, b] = tensV a := by unfold firstBadT; rw [ifF (isNil_false va)]
      have f2 : firstBadT [a] = tensV a := by unfold firstBadT; rw [ifF (isNil_false va)]
      refine cT (by simp only [faultE_one]; exact fun e => va ((codeE_zero _).1 e)) ?_
      rw [f1, f2, if_pos va]
      refine bnd _ (lodgesee_Same_self hN (tensV_OK a) rfl) (bT rfl ?_)
      exact bnd _ (lodgesee_Same_self hN (tensV_OK a) rfl) rfl
    have f2 : firstBadT [a] = .nil := by unfold firstBadT firstBadT; rw [ifT (nilT va)]
    refine cF (by simp [va, faultE]) ?_
    rw [f2, ifE (x := .nil) rfl]
    refine bnd ((if firstBadT [a, b] ≠ .nil then firstBadT [a, b] else .s ErrKind), ((faultE (tensV b), ()), (false, ()))) ?_ ?_
    · refine bnd _ (lodgesee_Is_self hN (show erOK (.s ErrKind) from (by decide : ErrKind < 21)) True.intro rfl) (bF rfl (cF (by simp) ?_))
      simp
    refine bF rfl ?_
    by_cases vb : tensV b = .nil
    · have f1 : firstBadT [a, b] = .nil := by unfold firstBadT firstBadT firstBadT; rw [ifT (nilT va), ifT (nilT vb)]
      refine cF (by simp [vb, faultE]) ?_
      rw [f1, ifE (x := .nil) rfl]
      exact bnd _ (lodgesee_Is_self hN (show erOK (.s ErrKind) from (by decide : ErrKind < 21)) True.intro rfl) rfl
    · have f1 : firstBadT [a, b] = tensV b := by unfold firstBadT firstBadT; rw [ifT (nilT va), ifF (isNil_false vb)]
      refine cT (by simp only [faultE_one]; exact fun e => vb ((codeE_zero _).1 e)) ?_
      rw [f1, if_pos vb]
      exact bnd _ (lodgesee_Same_self hN (tensV_OK b) rfl) (bT rfl rfl)

theorem ElemSays_row {N : Nat} (hN : N = 100000) (x : Val (rowTy ps_lodgelaw7_ElemSays)) (_ : FitsL ps_lodgelaw7_ElemSays x) : (c_lodgelaw7_ElemSays N).g x = some (true, ()) := by
  subst hN
  exact ElemSays_law (by omega) ElemResults_first _ _ _ _

end Go.Proofs.YtmbcbocnncfpbaaDoor.Lg
