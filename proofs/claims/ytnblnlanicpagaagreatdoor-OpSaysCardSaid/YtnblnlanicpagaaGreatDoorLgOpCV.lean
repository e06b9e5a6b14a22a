/-
  What the program's functions come to, in plain words.
-/
import Derived.Test.YtnblnlanicpagaaGreatDoorLgOpCY

namespace Go.Proofs.YtnblnlanicpagaaGreatDoor.Lg

open Go Go.Eng Go.Proofs

theorem op_first {N : Nat} (hN : N = 100000) : F_lodgelaw12_first N = some (true, ()) := by
  subst hN
  kernel_rfl

def nmOf (op : Int) : ByteArray := match F_op_Name 100000 op with
  | some (x, _) => x
  | none => ByteArray.empty

theorem op_name_known {op : Int} (hk : 4 ≤ op ∧ op ≤ 21) : F_op_Name 100000 op = some (nmOf op, ()) ∧ F_op_Named 100000 (nmOf op) = some (op, (true, ())) := by
  have h : op = 4 ∨ op = 5 ∨ op = 6 ∨ op = 7 ∨ op = 8 ∨ op = 9 ∨ op = 10 ∨ op = 11 ∨ op = 12 ∨ op = 13 ∨ op = 14 ∨ op = 15 ∨ op = 16 ∨ op = 17 ∨ op = 18 ∨ op = 19 ∨ op = 20 ∨ op = 21 := by omega
  rcases h with rfl | rfl | rfl | rfl | rfl | rfl | rfl | rfl | rfl | rfl | rfl | rfl | rfl | rfl | rfl | rfl | rfl | rfl <;> exact ⟨by kernel_rfl, by kernel_rfl⟩

theorem ref_name_known {op : Int} (hk : 4 ≤ op ∧ op ≤ 21) : F_lodgeref3_Name 100000 op = some (nmOf op, ()) ∧ True := by
  have h : op = 4 ∨ op = 5 ∨ op = 6 ∨ op = 7 ∨ op = 8 ∨ op = 9 ∨ op = 10 ∨ op = 11 ∨ op = 12 ∨ op = 13 ∨ op = 14 ∨ op = 15 ∨ op = 16 ∨ op = 17 ∨ op = 18 ∨ op = 19 ∨ op = 20 ∨ op = 21 := by omega
  rcases h with rfl | rfl | rfl | rfl | rfl | rfl | rfl | rfl | rfl | rfl | rfl | rfl | rfl | rfl | rfl | rfl | rfl | rfl <;> exact ⟨by kernel_rfl, True.intro⟩

theorem op_name_none {op : Int} (hk : ¬ (4 ≤ op ∧ op ≤ 21)) : F_op_Name 100000 op = some (ByteArray.mk (@List.toArray UInt8 ([] : List UInt8)), ()) := by
  unfold F_op_Name
  exact bnd _ (op_Known_spec _ op) (bT (by dsimp only; rw [decide_eq_false hk]; rfl) rfl)

theorem op_named_none : F_op_Named 100000 (ByteArray.mk (@List.toArray UInt8 ([] : List UInt8))) = some (0, (false, ())) := by kernel_rfl

theorem ref_Known_spec (N : Nat) (op : Int) : F_lodgeref3_Known N op = some (decide (4 ≤ op ∧ op ≤ 21), ()) := by
  unfold F_lodgeref3_Known
  by_cases h : 4 ≤ op
  · refine cT h ?_
    rw [show decide (4 ≤ op ∧ op ≤ 21) = decide (op ≤ 21) from decide_eq_decide.2 ⟨fun x => x.2, fun x => ⟨h, x⟩⟩]
  · rw [decide_eq_false (p := _ ∧ _) (fun x => h x.1)]
    exact cF h rfl

theorem ref_Ins_op (N : Nat) (op : Int) (hk : 4 ≤ op ∧ op ≤ 21) : F_lodgeref3_Ins N op = some ((insN op : Int), ()) ∧ F_lodgeref3_Args N op = some ((argN op : Int), ()) := by
  have h : op = 4 ∨ op = 5 ∨ op = 6 ∨ op = 7 ∨ op = 8 ∨ op = 9 ∨ op = 10 ∨ op = 11 ∨ op = 12 ∨ op = 13 ∨ op = 14 ∨ op = 15 ∨ op = 16 ∨ op = 17 ∨ op = 18 ∨ op = 19 ∨ op = 20 ∨ op = 21 := by omega
  rcases h with rfl | rfl | rfl | rfl | rfl | rfl | rfl | rfl | rfl | rfl | rfl | rfl | rfl | rfl | rfl | rfl | rfl | rfl <;> exact ⟨rfl, rfl⟩

theorem loop_Tensors (N : Nat) (l : List T) (m : Int) (hl : l.length ≤ 1000) : ∀ (n i : Nat), i ≤ l.length → l.length < n + i →
    g_lodgeworld_Tensors_0 N n l m i = some (.inl ()) ∨ g_lodgeworld_Tensors_0 N n l m i = some (.inr (false, ()))
  | 0, i, h, h' => by omega
  | n + 1, i, h, h' => by
    rw [g_lodgeworld_Tensors_0]
    by_cases hi : i < l.length
    · have hs := lodgeworld_Tensor_spec N (l.getD (i : Int).toNat (([], false), [])) m
      cases hd : decide (((l.getD (i : Int).toNat (([], false), [])).1.1.length : Int) ≤ 8 ∧ ((l.getD (i : Int).toNat (([], false), [])).2.length : Int) ≤ m)
      · rw [hd] at hs
        right
        exact cT (by omega) (cT (by omega) (cT (by simpa using hi) (bnd _ hs (bT rfl rfl))))
      · rw [hd] at hs
        have ih := loop_Tensors N l m hl n (i + 1) hi (by omega)
        rw [← wi64_succ (show i < 9223372036854775807 by omega)] at ih
        rcases ih with ih | ih
        · left
          exact cT (by omega) (cT (by omega) (cT (by simpa using hi) (bnd _ hs (bF rfl ih))))
        · right
          exact cT (by omega) (cT (by omega) (cT (by simpa using hi) (bnd _ hs (bF rfl ih))))
    · left
      exact cF (by omega) rfl

theorem loop_light (N : Nat) (op : Int) (args : List Int) (ins : List T) (hl : ins.length ≤ 1000) : ∀ (n i : Nat), i ≤ ins.length → ins.length < n + i →
    g_lodgelaw12_light_0 N n op args ins ((ins.map Prod.fst).take i) i = some (op, (args, (ins.map Prod.fst, ())))
  | 0, i, h, h' => by omega
  | n + 1, i, h, h' => by
    rw [g_lodgelaw12_light_0]
    by_cases hi : i < ins.length
    · have hlen : ((ins.map Prod.fst).take i).length = i := by simp; omega
      have e : List.take (List.length ((ins.map Prod.fst).take i)) ((ins.map Prod.fst).take i) ++ [(ins.getD i (([], false), [])).1] = (ins.map Prod.fst).take (i + 1) := by
        rw [List.take_length, List.take_succ_eq_append_getElem (by simpa using hi), getD_lt hi]
        simp
      refine cT (by omega) (cT (by omega) (cT (by simpa using hi) (cT (by omega) ?_)))
      rw [Int.toNat_natCast, e, wi64_succ (by omega)]
      refine cT (by rw [hlen]; simp only [most]; omega) (cT (by simp; omega) ?_)
      exact loop_light N op args ins hl n (i + 1) hi (by omega)
    · refine cF (by omega) ?_
      rw [List.take_of_length_le (by simp; omega)]
      exact cT (by first | rfl | exact True.intro) rfl

theorem light_spec {N : Nat} (hN : 20000 ≤ N) (op : Int) (args : List Int) (ins : List T) : ∃ b, F_lodgelaw12_light N op args ins = some (b, ()) ∧ (b = true → args.length ≤ 10 ∧ ins.length ≤ 3) := by
  unfold F_lodgelaw12_light
  by_cases h1 : (10 : Int) < (args.length : Int)
  · exact ⟨false, cT h1 rfl, by simp⟩
  by_cases h2 : (3 : Int) < (ins.length : Int)
  · refine ⟨false, cF h1 (bnd (false, ()) ?_ (bT rfl rfl)), by simp⟩
    unfold F_lodgeworld_Tensors
    exact cT h2 rfl
  have h0 := loop_Tensors N ins 300 (by omega) N 0 (by omega) (by omega)
  rw [show ((0 : Nat) : Int) = 0 from rfl] at h0
  rcases h0 with h0 | h0
  case inr =>
    refine ⟨false, cF h1 (bnd (false, ()) ?_ (bT rfl rfl)), by simp⟩
    unfold F_lodgeworld_Tensors
    exact cF h2 (bnd _ h0 rfl)
  have h3 := loop_light N op args ins (by omega) N 0 (by omega) (by omega)
  rw [show ((0 : Nat) : Int) = 0 from rfl, List.take_zero] at h3
  have hT : F_lodgeworld_Tensors N ins 3 300 = some (true, ()) := by
    unfold F_lodgeworld_Tensors
    exact cF h2 (bnd _ h0 rfl)
  have hm : List.take (List.length (ins.map Prod.fst)) (ins.map Prod.fst) = ins.map Prod.fst := List.take_length
  have hR := ref_Result_all hN op args (by omega) (ins.map Prod.fst) (by simp; omega)
  have hU := ref_Unit_spec hN op args (by omega) (ins.map Prod.fst) (by simp; omega)
  by_cases hr : codeE (resV op args (ins.map Prod.fst)).2 = 0
  · refine ⟨decide (wi64 (elems (resV op args (ins.map Prod.fst)).1.1 * unitR op args (ins.map Prod.fst)) ≤ 100000), cF h1 (bnd _ hT (bF rfl (bnd _ h3 (cT (by simp) ?_)))), fun _ => by omega⟩
    dsimp only
    rw [hm]
    refine bnd _ hR (cT (by simp) (bnd _ hU (cF (fun h => h hr) (cT (by simp) ?_))))
    dsimp only
    rw [List.take_length]
    exact bnd _ (lodgeref3_Elems_spec hN _) rfl
  · refine ⟨true, cF h1 (bnd _ hT (bF rfl (bnd _ h3 (cT (by simp) ?_)))), fun _ => by omega⟩
    dsimp only
    rw [hm]
    exact bnd _ hR (cT (by simp) (bnd _ hU (cT hr rfl)))

theorem OpSays_law (h1st : F_lodgelaw12_first 100000 = some (true, ())) (op : Int) (args : List Int) (ins : List T) (i : Int) : F_lodgelaw12_OpSays 100000 op args ins i = some (true, ()) := by
  obtain ⟨N, eN⟩ : ∃ N : Nat, N = 100000 := ⟨_, rfl⟩
  have hN : 20000 ≤ N := by omega
  have hno := op_named_none
  have hnn := @op_name_none op
  have hnk := @op_name_known op
  have hrk := @ref_name_known op
  rw [← eN] at h1st hno hnn hnk hrk ⊢
  unfold F_lodgelaw12_OpSays
  refine bnd _ h1st (bF rfl ?_)
  obtain ⟨b, hb, hb'⟩ := light_spec hN op args ins
  refine bnd (op, (args, (ins, (i, (true, (!b, ())))))) ?_ ?_
  · refine bnd _ hb ?_
    cases b
    · exact bT rfl rfl
    · exact bF rfl rfl
  cases b
  case false => exact bT rfl rfl
  obtain ⟨ha, hi⟩ := hb' rfl
  refine bF rfl ?_
  dsimp only
  refine bnd _ (op_Apply_spec hN op args (by omega) ins (by omega)) (bnd _ (ref_Apply_all hN op args (by omega) ins (by omega)) ?_)
  obtain ⟨l1, m1⟩ := appV_len op args ins
  have o1 := appV_OK op args ins
  have hE1 := op_Element_spec hN op args (by omega) i ins (by omega)
  have hE2 := ref_Element_all hN op args (by omega) i ins (by omega)
  generalize appV op args ins = P at *
  have tail : ∀ (y : Int × (List Int × (List T × (Int × ((List Int × (Bool × (List Int × Unit))) × (Er × ((List Int × (Bool × (List Int × Unit))) × (((Int × (Bool × Int)) × Unit) × (Bool × Unit))))))))), y = (op, (args, (ins, (i, (boxT P.1.1.1 P.1.1.2 P.1.2, (P.2, (boxT P.1.1.1 P.1.1.2 P.1.2, ((faultE P.2, ()), (false, ())))))))))  → True := fun _ _ => True.intro
  by_cases hk : 4 ≤ op ∧ op ≤ 21
  · obtain ⟨n1, n2⟩ := hnk hk
    obtain ⟨n3, _⟩ := hrk hk
    obtain ⟨i1, i2⟩ := ref_Ins_op N op hk
    refine bnd _ n1 (bnd _ n2 ?_)
    refine bnd (op, (args, (ins, (i, (boxT P.1.1.1 P.1.1.2 P.1.2, (P.2, (boxT P.1.1.1 P.1.1.2 P.1.2, ((faultE P.2, ()), (false, ()))))))))) ?_ ?_
    · refine bnd _ (ref_Known_spec N op) (bT (decide_eq_true hk) (bF rfl (cF (fun h => h rfl) (bnd _ (ref_Known_spec N op) (bF (by dsimp only; rw [decide_eq_true hk]; rfl) ?_)))))
      (repeat first | refine cT rfl ?_ | refine cT True.intro ?_)
      rfl
    refine bF rfl ?_
    dsimp only
    refine bnd _ (lodgesee_Same_self hN o1 rfl) (bT rfl (cT (by simp) (cT (by simp) (cT (by simp) ?_))))
    refine bnd _ (lodgeref_SameTensor_self (by simp) (by simp; omega) (by simp; omega) (by simp; omega) (by simp; omega)) (bT rfl ?_)
    refine bnd _ (op_Known_spec N op) (bnd _ (ref_Known_spec N op) (bT (by simp) ?_))
    refine bnd _ (op_Ins_spec N op) (bnd _ i1 (cT (by first | rfl | exact True.intro) ?_))
    refine bnd _ (op_Args_spec N op) (bnd _ i2 (cT (by first | rfl | exact True.intro) ?_))
    refine bnd _ n1 (bnd _ n3 (bT (by simp) ?_))
    refine bnd _ hE1 (bnd _ hE2 ?_)
    simp
  · have n1 := hnn hk
    have e1 : insN op = 0 := by unfold insN; rw [if_neg (by omega), if_neg hk]
    have e2 : argN op = 0 := by unfold argN; rw [if_neg (by omega), if_neg (by omega), if_neg (by omega)]
    refine bnd _ n1 (bnd _ hno ?_)
    refine bnd (op, (args, (ins, (i, (boxT P.1.1.1 P.1.1.2 P.1.2, (P.2, (boxT P.1.1.1 P.1.1.2 P.1.2, ((faultE P.2, ()), (false, ()))))))))) ?_ ?_
    · refine bnd _ (ref_Known_spec N op) (bF (decide_eq_false hk) (bnd _ (ref_Known_spec N op) (bT (by dsimp only; rw [decide_eq_false hk]; rfl) (bF rfl ?_))))
      (repeat first | refine cT rfl ?_ | refine cT True.intro ?_)
      rfl
    refine bF rfl ?_
    dsimp only
    refine bnd _ (lodgesee_Same_self hN o1 rfl) (bT rfl (cT (by simp) (cT (by simp) (cT (by simp) ?_))))
    refine bnd _ (lodgeref_SameTensor_self (by simp) (by simp; omega) (by simp; omega) (by simp; omega) (by simp; omega)) (bT rfl ?_)
    refine bnd _ (op_Known_spec N op) (bnd _ (ref_Known_spec N op) (bT (by simp) ?_))
    have r1 : F_lodgeref3_Ins N op = some (0, ()) := by
      unfold F_lodgeref3_Ins
      repeat (first | rfl | refine cF (by omega) ?_ | refine bnd _ (ref_Known_spec N op) ?_ | refine bT (by dsimp only; rw [decide_eq_false hk]; rfl) ?_ | refine bF (by dsimp only; rw [decide_eq_false hk]) ?_)
    have r2 : F_lodgeref3_Args N op = some (0, ()) := by
      unfold F_lodgeref3_Args
      repeat (first | rfl | refine cF (by omega) ?_ | refine bnd _ (ref_Known_spec N op) ?_ | refine bT (by dsimp only; rw [decide_eq_false hk]; rfl) ?_ | refine bF (by dsimp only; rw [decide_eq_false hk]) ?_)
    have r3 : F_lodgeref3_Name N op = some (ByteArray.mk (@List.toArray UInt8 ([] : List UInt8)), ()) := by
      unfold F_lodgeref3_Name
      exact bnd _ (ref_Known_spec N op) (bT (by dsimp only; rw [decide_eq_false hk]; rfl) rfl)
    refine bnd _ (op_Ins_spec N op) (bnd _ r1 (cT (by dsimp only; rw [e1]; rfl) ?_))
    refine bnd _ (op_Args_spec N op) (bnd _ r2 (cT (by dsimp only; rw [e2]; rfl) ?_))
    refine bnd _ n1 (bnd _ r3 (bT (by simp) ?_))
    refine bnd _ hE1 (bnd _ hE2 ?_)
    simp

theorem OpSays_row {N : Nat} (hN : N = 100000) (x : Val (rowTy ps_lodgelaw12_OpSays)) (_ : FitsL ps_lodgelaw12_OpSays x) : (c_lodgelaw12_OpSays N).g x = some (true, ()) := by
  have h1 := op_first hN
  have := OpSays_law (by rw [← hN]; exact h1) x.1 x.2.1 x.2.2.1 x.2.2.2.1
  rw [← hN] at this
  exact this

end Go.Proofs.YtnblnlanicpagaaGreatDoor.Lg
