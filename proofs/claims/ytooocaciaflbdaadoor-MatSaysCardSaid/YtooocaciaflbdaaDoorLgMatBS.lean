/-
  What the program's functions come to, in plain words.
-/
import Derived.Test.YtooocaciaflbdaaDoorLgMatBQ
namespace Go.Proofs.YtooocaciaflbdaaDoor.Lg
open Go Go.Eng Go.Proofs

theorem erOK_bad {k : Nat} (h : k < 21) : erOK (.s k) := h

theorem MatSays_law {N : Nat} (hN : 20000 ≤ N) (h1st : F_lodgelaw8_first N = some (true, ())) (a b : T) (za zb i : Int) : F_lodgelaw8_MatSays N a b za zb i = some (true, ()) := by
  unfold F_lodgelaw8_MatSays
  refine bnd _ h1st (bF rfl ?_)
  refine bnd _ (lodgeworld_Tensor_spec N a 300) ?_
  by_cases ha : (a.1.1.length : Int) ≤ 8 ∧ (a.2.length : Int) ≤ 300
  case neg => exact bT (by simp only [decide_eq_false ha]; rfl) rfl
  refine bF (by simp only [decide_eq_true ha]; rfl) (bnd _ (lodgeworld_Tensor_spec N b 300) ?_)
  by_cases hb : (b.1.1.length : Int) ≤ 8 ∧ (b.2.length : Int) ≤ 300
  case neg => exact bT (by simp only [decide_eq_false hb]; rfl) rfl
  refine bF (by simp only [decide_eq_true hb]; rfl) (bF rfl ?_)
  obtain ⟨a8, a3⟩ := ha
  obtain ⟨b8, b3⟩ := hb
  -- the product
  obtain ⟨P, e, x, hM, hA, hx, hP, hP2, hE, hC⟩ : ∃ (P : T) (e : Er) (x : T), F_mat_Mul N a b za zb = some (boxT P.1.1 P.1.2 P.2, (e, ())) ∧ F_lodgeref3_Apply N 12 [za, zb] [a, b] = some (boxT x.1.1 x.1.2 x.2, (faultE e, ())) ∧ P = x ∧ P.1.1.length ≤ 10000 ∧ P.2.length ≤ 17000 ∧ erOK e ∧
      ∃ v, F_mat_Cell N a b za zb i = some (v, ()) ∧ F_lodgeref3_Element N 12 [za, zb] i [a, b] = some (v, ()) := by
    by_cases hr : (matRes' a b za zb).2 = .nil
    · obtain ⟨m, k, n, hm, hk, hn, hmk, hkn, hmn, ea, eb, la, lb, fa, fb, hza, hzb, va, vb⟩ := matRes'_ok hr
      obtain ⟨⟨ash, aw⟩, A⟩ := a
      obtain ⟨⟨bsh, bw⟩, B⟩ := b
      simp only [Prod.mk.injEq] at ea eb
      obtain ⟨rfl, rfl⟩ := ea
      obtain ⟨rfl, rfl⟩ := eb
      have hin : firstBadT [(([(m : Int), (k : Int)], false), A), (([(k : Int), (n : Int)], false), B)] = .nil := by
        unfold firstBadT firstBadT firstBadT
        rw [ifT (nilT va), ifT (nilT vb)]
      have hM : MulOK (([(m : Int), (k : Int)], false), A) (([(k : Int), (n : Int)], false), B) za zb m k n := ⟨hm, hk, hn, la, lb, getD_in fa, getD_in fb, hza, hzb⟩
      have hg := matRes'_good hm hk hn hmk hkn hmn la lb fa fb hza hzb
      have hR : F_lodgeref3_Result N 12 [za, zb] [([(m : Int), (k : Int)], false), ([(k : Int), (n : Int)], false)] = some (boxD ([(m : Int), (n : Int)], true), (0, ())) := by
        rw [ref_Result_mat hN]
        unfold matRes' at hg
        rw [ifNT (nilT va), ifNT (nilT vb)] at hg
        rw [hg]
        rfl
      refine ⟨(([(m : Int), (n : Int)], true), mulL A B za zb m k n), .nil, _, mat_Mul_good hN hm hk hn hmk hkn hmn la lb fa fb hza hzb, ?_, rfl, by simp, by rw [mulL_length]; omega, True.intro, _, mat_Cell_good hN hm hk hn hmk hkn hmn la lb fa fb hza hzb i, ?_⟩
      · exact ref_Apply_ok hN 12 [za, zb] _ (by simp) hin (d := ([(m : Int), (n : Int)], true)) (by simp) (sz := m * n) (elems_two hm hn hmn) hR (mulC A B za zb k n) (fun i hi => element_mat hN hM rfl rfl _ hi)
      · exact ref_Element_ok hN 12 [za, zb] i _ (by simp) hin (d := ([(m : Int), (n : Int)], true)) (sz := m * n) (elems_two hm hn hmn) hR (mulC A B za zb k n) (fun i hi => element_mat hN hM rfl rfl _ hi)
    · have hr' := isNil_false hr
      have hcell : F_mat_Cell N a b za zb i = some (0, ()) := by
        unfold F_mat_Cell
        exact bnd _ (mat_result_spec hN _ _ _ _) (bT (by simp [hr']) rfl)
      refine ⟨(([], false), []), (matRes' a b za zb).2, _, mat_Mul_bad hN hr', ?_, rfl, by simp, by simp, matRes'_OK _ _ _ _, 0, hcell, ?_⟩
      all_goals
        by_cases va : tensV a = .nil
        case neg =>
          have hf : firstBadT [a, b] = tensV a := by unfold firstBadT; rw [ifF (isNil_false va)]
          have hm : (matRes' a b za zb).2 = tensV a := by unfold matRes'; rw [ifNF (isNil_false va)]
          first
          | exact ref_Element_in hN 12 [za, zb] i [a, b] (by simp) (by rw [hf]; exact va)
          | rw [hm, ← hf]; exact ref_Apply_in hN 12 [za, zb] [a, b] (by simp) (by rw [hf]; exact va)
        by_cases vb : tensV b = .nil
        case neg =>
          have hf : firstBadT [a, b] = tensV b := by unfold firstBadT firstBadT; rw [ifT (nilT va), ifF (isNil_false vb)]
          have hm : (matRes' a b za zb).2 = tensV b := by unfold matRes'; rw [ifNT (nilT va), ifNF (isNil_false vb)]
          first
          | exact ref_Element_in hN 12 [za, zb] i [a, b] (by simp) (by rw [hf]; exact vb)
          | rw [hm, ← hf]; exact ref_Apply_in hN 12 [za, zb] [a, b] (by simp) (by rw [hf]; exact vb)
        have hf : firstBadT [a, b] = .nil := by unfold firstBadT firstBadT firstBadT; rw [ifT (nilT va), ifT (nilT vb)]
        have hm : (matRes' a b za zb).2 = (matRes za zb a.1 b.1).2 := by unfold matRes'; rw [ifNT (nilT va), ifNT (nilT vb)]
        rw [hm] at hr
        have hc : codeE (matRes za zb a.1 b.1).2 ≠ 0 := fun e => hr ((codeE_zero _).1 e)
        first
        | exact ref_Element_bad hN 12 [za, zb] i [a, b] (by simp) hf hc (ref_Result_mat hN za zb a.1 b.1)
        | rw [hm, faultE_bare (matRes_bare _ _ _ _)]; exact ref_Apply_bad hN 12 [za, zb] [a, b] (by simp) hf hc (ref_Result_mat hN za zb a.1 b.1)
  obtain ⟨v, hC, hC'⟩ := hC
  subst hx
  -- turned
  obtain ⟨U, h, hT, hTr, hU, hU2, hh⟩ : ∃ (U : T) (h : Er), F_mat_Turn N a = some (boxT U.1.1 U.1.2 U.2, (h, ())) ∧ F_lodgeref3_Apply N 21 [] [a] = some (boxT U.1.1 U.1.2 U.2, (faultE h, ())) ∧ U.1.1.length ≤ 10000 ∧ U.2.length ≤ 17000 ∧ erOK h := by
    by_cases va : tensV a = .nil
    case neg =>
      have hf : firstBadT [a] = tensV a := by unfold firstBadT; rw [ifF (isNil_false va)]
      refine ⟨(([], false), []), tensV a, mat_Turn_bad hN va, ?_, by simp, by simp, tensV_OK a⟩
      rw [← hf]
      exact ref_Apply_in hN 21 [] [a] (by simp) (by rw [hf]; exact va)
    have hf : firstBadT [a] = .nil := by unfold firstBadT firstBadT; rw [ifT (nilT va)]
    have vs := ((tensV_iff a).1 va).1
    by_cases h2 : a.1.1.length = 2
    case neg =>
      refine ⟨(([], false), []), .s ErrShape, mat_Turn_rank hN va h2, ?_, by simp, by simp, (by decide : ErrShape < 21)⟩
      have ht : turnRes a.1 = (noD, .s ErrShape) := by unfold turnRes; rw [ifNT (nilT vs), if_pos h2]
      have hR := ref_Result_turn hN a.1
      rw [ht] at hR
      exact ref_Apply_bad hN 21 [] [a] (by simp) hf (c := codeS ErrShape) (by have := codeS_pos ErrShape; omega) hR
    obtain ⟨m, n, e, hm, hn, hmn, he⟩ := shape_nat_two vs h2
    have la := ((tensV_iff a).1 va).2.1
    obtain ⟨⟨ash, aw⟩, A⟩ := a
    simp only at e la he
    subst e
    rw [he] at la
    have la : A.length = m * n := by omega
    have hnm : n * m ≤ 16384 := by rw [Nat.mul_comm]; exact hmn
    refine ⟨(([(n : Int), (m : Int)], aw), turnL A m n), .nil, mat_Turn_good hN va hmn la, ?_, by simp, by rw [turnL_length]; omega, True.intro⟩
    have ht : turnRes ([(m : Int), (n : Int)], aw) = (([(n : Int), (m : Int)], aw), .nil) := by
      unfold turnRes; rw [ifNT (nilT vs), if_neg (by simp)]; rfl
    have hR := ref_Result_turn hN ([(m : Int), (n : Int)], aw)
    rw [ht] at hR
    have hs : elems [(n : Int), (m : Int)] = ((m * n : Nat) : Int) := by rw [elems_two hn hm hnm, Nat.mul_comm]
    exact ref_Apply_ok hN 21 [] _ (by simp) hf (d := ([(n : Int), (m : Int)], aw)) (by simp) (sz := m * n) hs hR (fun i => A.getD (i % m * n + i / m) 0) (fun i hi => element_turn (a := (([(m : Int), (n : Int)], aw), A)) rfl la hmn _ hi)
  refine bnd _ hM (bnd _ hA (bnd _ (mat_Result_spec hN _ _ _ _) (bnd _ (lodgeref3_MatResult_spec hN _ _ _ _) (bnd _ hT (bnd _ hTr ?_)))))
  refine bnd _ (lodgesee_Same_self hN hE rfl) (bT rfl (cT (by simp) (cT (by simp) (cT (by simp) ?_))))
  refine bnd _ (lodgeref_SameTensor_self (by simp) (by simp; omega) (by simp; omega) (by simp; omega) (by simp; omega)) (bT rfl ?_)
  refine bnd _ (lodgesee_Is_self hN (matRes_OK _ _ _ _) (matRes_bare _ _ _ _) rfl) (bT rfl (cT (by simp) ?_))
  have hD : (matRes za zb a.1 b.1).1.1.length ≤ 1000 := by
    unfold matRes
    repeat' split
    all_goals simp [noD]
  refine bnd _ (lodgeref_SameDesc_self (by simp) (by dsimp only; omega) (by dsimp only; omega)) (bT rfl ?_)
  refine bnd _ (lodgesee_Same_self hN hh rfl) (bT rfl (cT (by simp) (cT (by simp) (cT (by simp) (cT (by simp) ?_)))))
  refine bnd _ (lodgeref_SameTensor_self (by simp) (by simp; omega) (by simp; omega) (by simp; omega) (by simp; omega)) (bT rfl ?_)
  refine bnd _ hC (bnd _ hC' ?_)
  simp

theorem MatSays_first : F_lodgelaw8_first 100000 = some (true, ()) := by kernel_rfl

theorem MatSays_row {N : Nat} (hN : N = 100000) (x : Val (rowTy ps_lodgelaw8_MatSays)) (_ : FitsL ps_lodgelaw8_MatSays x) : (c_lodgelaw8_MatSays N).g x = some (true, ()) := by
  subst hN
  exact MatSays_law (by omega) MatSays_first _ _ _ _ _

end Go.Proofs.YtooocaciaflbdaaDoor.Lg
