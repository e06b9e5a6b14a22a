/-
  What the program's functions come to, in plain words.
-/
import Derived.Test.YtmbcbocnncfpbaaDoorLgElemBV2
namespace Go.Proofs.YtmbcbocnncfpbaaDoor.Lg
open Go Go.Eng Go.Proofs

theorem firstBad_len : ∀ {l : List D}, firstBad l = .nil → (l.getD 0 noD).1.length ≤ 4
  | [], _ => by simp [noD]
  | d :: r, h => by
    unfold firstBad at h
    rcases shapeV_cases d.1 with hd | ⟨hd, hd'⟩
    · exact (shapeV_nil.1 hd).1
    · rw [ifF hd] at h
      rw [h] at hd
      cases hd

theorem elemRes_len (op : Int) (args : List Int) (ins : List D) : (elemRes op args ins).1.1.length ≤ 4 := by
  unfold elemRes
  by_cases h1 : 4 ≤ op ∧ op ≤ 11
  case neg => rw [if_pos h1]; simp [noD]
  rw [if_neg (fun h => h h1)]
  split
  · simp [noD]
  by_cases h3 : firstBad ins = .nil
  case neg => rw [ifNF (isNil_false h3)]; simp [noD]
  rw [ifNT (nilT h3)]
  split
  · simp [noD]
  split
  · simp [noD]
  · exact firstBad_len h3

theorem loop_ElemResults (N : Nat) (op : Int) (args : List Int) (ins : List D) (hl : ins.length ≤ 1000) : ∀ (n i : Nat), i ≤ ins.length → ins.length < n + i →
    g_lodgelaw7_ElemResults_0 N n op args ins i = some (.inl (op, (args, (ins, ())))) ∨ g_lodgelaw7_ElemResults_0 N n op args ins i = some (.inr (true, ()))
  | 0, i, h, h' => by omega
  | n + 1, i, h, h' => by
    rw [g_lodgelaw7_ElemResults_0]
    by_cases hi : i < ins.length
    · cases hd : decide ((Nat.cast (List.length (List.getD ins (Int.toNat (i : Int)) ([], false)).1) : Int) ≤ 8)
      · right
        refine cT (by omega) (cT (by omega) (cT (by simpa using hi) (bnd _ rfl ?_)))
        exact bT (by rw [hd]; rfl) rfl
      · have ih := loop_ElemResults N op args ins hl n (i + 1) hi (by omega)
        rw [← wi64_succ (show i < 9223372036854775807 by omega)] at ih
        rcases ih with ih | ih
        · left
          refine cT (by omega) (cT (by omega) (cT (by simpa using hi) (bnd _ rfl ?_)))
          exact bF (by rw [hd]; rfl) ih
        · right
          refine cT (by omega) (cT (by omega) (cT (by simpa using hi) (bnd _ rfl ?_)))
          exact bF (by rw [hd]; rfl) ih
    · left
      exact cF (by omega) rfl

theorem ElemResults_law {N : Nat} (hN : 20000 ≤ N) (h1st : F_lodgelaw7_first N = some (true, ())) (op : Int) (args : List Int) (ins : List D) : F_lodgelaw7_ElemResults N op args ins = some (true, ()) := by
  unfold F_lodgelaw7_ElemResults
  refine bnd _ h1st (bF rfl ?_)
  by_cases ha : (10 : Int) < args.length
  · exact cT ha rfl
  refine cF ha ?_
  by_cases hi : (3 : Int) < ins.length
  · exact cT hi rfl
  refine cF hi (bF rfl ?_)
  have h0 := loop_ElemResults N op args ins (by omega) N 0 (by omega) (by omega)
  rw [show ((0 : Nat) : Int) = 0 from rfl] at h0
  rcases h0 with h0 | h0
  case inr => rw [h0]; rfl
  rw [h0]
  simp only [Option.bind_some, Sum.elim_inl]
  have hlen := elemRes_len op args ins
  refine bnd _ (elem_Result_spec hN op args ins (by omega)) (bnd _ (lodgeref3_ElemResult_spec hN op args ins (by omega)) ?_)
  refine bnd _ (lodgesee_Is_self hN (elemRes_OK _ _ _) (elemRes_bare _ _ _) rfl) (bT rfl (cT (by simp) (cT (by simp) ?_)))
  exact bnd _ (lodgeref_SameDesc_self rfl (by simp; omega) (by simp; omega)) rfl

theorem ElemResults_first : F_lodgelaw7_first 100000 = some (true, ()) := by kernel_rfl

theorem ElemResults_row {N : Nat} (hN : N = 100000) (x : Val (rowTy ps_lodgelaw7_ElemResults)) (_ : FitsL ps_lodgelaw7_ElemResults x) : (c_lodgelaw7_ElemResults N).g x = some (true, ()) := by
  subst hN
  exact ElemResults_law (by omega) ElemResults_first _ _ _

end Go.Proofs.YtmbcbocnncfpbaaDoor.Lg
