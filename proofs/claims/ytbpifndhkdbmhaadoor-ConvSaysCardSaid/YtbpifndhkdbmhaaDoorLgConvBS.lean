/-
  What the program's functions come to, in plain words.
-/
import Derived.Test.YtbpifndhkdbmhaaDoorLgConvBR
namespace Go.Proofs.YtbpifndhkdbmhaaDoor.Lg
open Go Go.Eng Go.Proofs

theorem convRes'_OK (a k : T) (ar : List Int) : erOK (convRes' a k ar).2 := by
  unfold convRes'
  repeat' split
  all_goals first | exact tensV_OK _ | exact convRes_OK _ _ _

theorem convRes_len (ar : List Int) (a k : D) : (convRes ar a k).1.1.length ≤ 4 := by
  unfold convRes
  repeat' split
  all_goals simp [noD, convSh]

theorem ConvSays_law {N : Nat} (hN : 20000 ≤ N) (h1st : F_lodgelaw9_first N = some (true, ())) (a k : T) (ar : List Int) (i : Int) : F_lodgelaw9_ConvSays N a k ar i = some (true, ()) := by
  unfold F_lodgelaw9_ConvSays
  refine bnd _ h1st (bF rfl ?_)
  refine bnd (ar, (i, ((a, ()), ((k, ()), (true, (!decide ((a.1.1.length : Int) ≤ 8 ∧ (a.2.length : Int) ≤ 300) || !decide ((k.1.1.length : Int) ≤ 8 ∧ (k.2.length : Int) ≤ 300) || decide ((6 : Int) < ar.length), ())))))) ?_ ?_
  · refine bnd _ (lodgeworld_Tensor_spec N a 300) ?_
    cases decide ((a.1.1.length : Int) ≤ 8 ∧ (a.2.length : Int) ≤ 300)
    · exact bT rfl rfl
    refine bF rfl (bnd _ (lodgeworld_Tensor_spec N k 300) ?_)
    cases decide ((k.1.1.length : Int) ≤ 8 ∧ (k.2.length : Int) ≤ 300)
    · exact bT rfl rfl
    refine bF rfl ?_
    by_cases hl : (6 : Int) < ar.length
    · refine cT hl ?_
      rw [decide_eq_true hl]
      rfl
    · refine cF hl ?_
      rw [decide_eq_false hl]
      rfl
  cases hB : (!decide ((a.1.1.length : Int) ≤ 8 ∧ (a.2.length : Int) ≤ 300) || !decide ((k.1.1.length : Int) ≤ 8 ∧ (k.2.length : Int) ≤ 300) || decide ((6 : Int) < ar.length))
  case true => exact bT rfl rfl
  refine bF rfl ?_
  dsimp only
  have hE := convRes'_OK a k ar
  have hE2 := convRes_OK ar a.1 k.1
  have hlen := convRes_len ar a.1 k.1
  -- what both come to
  obtain ⟨P, hDo, hP1, hP2, hfin⟩ : ∃ P : T, F_conv_Do N a k ar = some (boxT P.1.1 P.1.2 P.2, ((convRes' a k ar).2, ())) ∧ P.1.1.length ≤ 10000 ∧ P.2.length ≤ 17000 ∧
      (((convRes' a k ar).2 ≠ .nil ∧ P.2 = [] ∧ F_conv_Cell N a k i ar = some (0, ())) ∨
       ((convRes' a k ar).2 = .nil ∧ F_lodgeref3_Apply N 13 ar [a, k] = some (boxT P.1.1 P.1.2 P.2, ((0, (false, 0)), ())) ∧ ∃ v, F_conv_Cell N a k i ar = some (v, ()) ∧ F_lodgeref3_Element N 13 ar i [a, k] = some (v, ()))) := by
    by_cases hr : (convRes' a k ar).2 = .nil
    case neg =>
      have hr' := isNil_false hr
      exact ⟨(([], false), []), conv_Do_bad hN hr', by simp, by simp, .inl ⟨hr, rfl, conv_Cell_bad hN hr'⟩⟩
    have hr0 := hr
    unfold convRes' at hr0
    by_cases va : tensV a = .nil
    case neg => rw [ifNF (isNil_false va)] at hr0; exact absurd hr0 va
    by_cases vk : tensV k = .nil
    case neg => rw [ifNT (nilT va), ifNF (isNil_false vk)] at hr0; exact absurd hr0 vk
    rw [ifNT (nilT va), ifNT (nilT vk)] at hr0
    obtain ⟨za, h, w, c, kh, kw, n, s, p, H, ear, wa, wk, q1, q2, g1, g2, g3, e1, e2⟩ := convRes_ok va vk hr0
    subst ear
    have hfull : convRes [(s : Int), (p : Int), za] a.1 k.1 = (([(((h + 2 * p - kh) / s + 1 : Nat) : Int), (((w + 2 * p - kw) / s + 1 : Nat) : Int), (n : Int)], true), .nil) := Prod.ext e1 hr0
    have hfull' : convRes' a k [(s : Int), (p : Int), za] = (([(((h + 2 * p - kh) / s + 1 : Nat) : Int), (((w + 2 * p - kw) / s + 1 : Nat) : Int), (n : Int)], true), .nil) := by
      unfold convRes'
      rw [ifNT (nilT va), ifNT (nilT vk), hfull]
    have hf : firstBadT [a, k] = .nil := by unfold firstBadT firstBadT firstBadT; rw [ifT (nilT va), ifT (nilT vk)]
    have hR := ref_Result_conv hN (s : Int) (p : Int) za a.1 k.1
    rw [hfull] at hR
    rw [e1] at e2
    refine ⟨(([(((h + 2 * p - kh) / s + 1 : Nat) : Int), (((w + 2 * p - kw) / s + 1 : Nat) : Int), (n : Int)], true), cvL a.2 k.2 za h w c kh kw n s p ((h + 2 * p - kh) / s + 1) ((w + 2 * p - kw) / s + 1)), ?_, by simp, by simp [cvL]; omega, .inr ⟨hr, ?_, _, conv_Cell_ok H hN g1 g2 g3 hfull' i, ?_⟩⟩
    · rw [hr]
      exact conv_Do_ok H hN g1 g2 g3 hfull'
    · exact ref_Apply_ok hN 13 _ [a, k] (by simp) hf (by simp) e2 hR _ (fun i hi => element_conv H hN g1 g2 hi true)
    · exact ref_Element_ok hN 13 _ i [a, k] (by simp) hf e2 hR _ (fun i hi => element_conv H hN g1 g2 hi true)
  refine bnd _ hDo (bnd _ (conv_Result_spec hN _ _ _) (bnd _ (lodgeref3_ConvResult_spec hN _ _ _) (bnd _ (lodgeref3_Valid_spec hN a) ?_)))
  generalize hC : convRes ar a.1 k.1 = C at *
  generalize hC' : (convRes' a k ar).2 = Er' at *
  refine bnd (ar, (i, ((a, ()), ((k, ()), (boxT P.1.1 P.1.2 P.2, (Er', ((C.1, ()), (C.2, (boxD C.1, (codeE C.2, (((if tensV a = .nil then faultE (tensV k) else faultE (tensV a)), ()), ()))))))))))) ?_ ?_
  · by_cases va : tensV a = .nil
    · refine cT (by simp [va, faultE]) (bnd _ (lodgeref3_Valid_spec hN k) ?_)
      (repeat first | refine cT rfl ?_ | refine cT True.intro ?_)
      rw [if_pos va]
    · refine cF (by simp only [faultE_one]; exact fun e => va ((codeE_zero _).1 e)) ?_
      (repeat first | refine cT rfl ?_ | refine cT True.intro ?_)
      rw [if_neg va]
  have hff : faultE Er' = if (if tensV a = .nil then faultE (tensV k) else faultE (tensV a)).1 = 0 then (codeE C.2, (false, 0)) else (if tensV a = .nil then faultE (tensV k) else faultE (tensV a)) := by
    rw [← hC', ← hC]
    unfold convRes'
    by_cases va : tensV a = .nil
    · rw [ifNT (nilT va), if_pos va, faultE_one]
      by_cases vk : tensV k = .nil
      · rw [ifNT (nilT vk), if_pos ((codeE_zero _).2 vk), faultE_bare (convRes_bare _ _ _)]
      · rw [ifNF (isNil_false vk), if_neg (fun e => vk ((codeE_zero _).1 e))]
    · rw [ifNF (isNil_false va), if_neg va, faultE_one, if_neg (fun e => va ((codeE_zero _).1 e))]
  refine bnd (ar, (i, ((a, ()), ((k, ()), (boxT P.1.1 P.1.2 P.2, (Er', ((C.1, ()), (C.2, (boxD C.1, (codeE C.2, ((faultE Er', ()), ()))))))))))) ?_ ?_
  · by_cases hz : (if tensV a = .nil then faultE (tensV k) else faultE (tensV a)).1 = 0
    · rw [if_pos hz] at hff
      refine cT hz (bnd _ rfl ?_)
      (repeat first | refine cT rfl ?_ | refine cT True.intro ?_)
      rw [hff]
    · rw [if_neg hz] at hff
      refine cF hz ?_
      (repeat first | refine cT rfl ?_ | refine cT True.intro ?_)
      rw [hff]
  have hCb : bareE C.2 := by rw [← hC]; exact convRes_bare _ _ _
  refine bnd (ar, (i, ((a, ()), ((k, ()), (boxT P.1.1 P.1.2 P.2, ((faultE Er', ()), (false, ()))))))) ?_ ?_
  · refine bnd _ (lodgesee_Is_self hN hE2 hCb rfl) (bF rfl (cT (by simp) ?_))
    refine bnd _ (lodgeref_SameDesc_self (by simp) (by dsimp only; omega) (by dsimp only; omega)) (bF rfl ?_)
    refine bnd _ (lodgesee_Same_self hN hE rfl) ?_
    (repeat first | refine cT rfl ?_ | refine cT True.intro ?_)
    rfl
  refine bF rfl ?_
  dsimp only
  rcases hfin with ⟨hne, hPe, hcell⟩ | ⟨he, happ, v, hcell, helem⟩
  · refine cT (by rw [faultE_one]; exact fun e => hne ((codeE_zero _).1 e)) (cT (by rw [hPe]; rfl) ?_)
    exact bnd _ hcell rfl
  · rw [he]
    refine cF (by simp [faultE]) (bnd _ happ (cT (by simp) (cT (by simp) (cT (by simp) ?_))))
    refine bnd _ (lodgeref_SameTensor_self (by simp) (by simp; omega) (by simp; omega) (by simp; omega) (by simp; omega)) (bT rfl ?_)
    refine bnd _ hcell (bnd _ helem ?_)
    simp

theorem ConvSays_first : F_lodgelaw9_first 100000 = some (true, ()) := by kernel_rfl

theorem ConvSays_row {N : Nat} (hN : N = 100000) (x : Val (rowTy ps_lodgelaw9_ConvSays)) (_ : FitsL ps_lodgelaw9_ConvSays x) : (c_lodgelaw9_ConvSays N).g x = some (true, ()) := by
  subst hN
  exact ConvSays_law (by omega) ConvSays_first _ _ _ _

end Go.Proofs.YtbpifndhkdbmhaaDoor.Lg
