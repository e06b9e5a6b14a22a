/-
  What the program's functions come to, in plain words.
-/
import Derived.Test.YtnblnlanicpagaaDoorLgOpAW
namespace Go.Proofs.YtnblnlanicpagaaDoor.Lg
open Go Go.Eng Go.Proofs

theorem op_first {N : Nat} (hN : N = 100000) : F_lodgelaw12_first N = some (true, ()) := by
  subst hN
  kernel_rfl

def nmOf (op : Int) : ByteArray := match F_op_Name 100000 op with
  | some (x, _) => x
  | none => ByteArray.empty

theorem op_name_known {op : Int} (hk : 4 ≤ op ∧ op ≤ 21) : F_op_Name 100000 op = some (nmOf op, ()) ∧ F_op_Named 100000 (nmOf op) = some (op, (true, ())) := by
  have h : op = 4 ∨ op = 5 ∨ op = 6 ∨ op = 7 ∨ op = 8 ∨ op = 9 ∨ op = 10 ∨ op = 11 ∨ op = 12 ∨ op = 13 ∨ op = 14 ∨ op = 15 ∨ op = 16 ∨ op = 17 ∨ op = 18 ∨ op = 19 ∨ op = 20 ∨ op = 21 := by omega
  rcases h with rfl | rfl | rfl | rfl | rfl | rfl | rfl | rfl | rfl | rfl | rfl | rfl | rfl | rfl | rfl | rfl | rfl | rfl <;> exact ⟨by kernel_rfl, by kernel_rfl⟩

theorem op_name_none {op : Int} (hk : ¬ (4 ≤ op ∧ op ≤ 21)) : F_op_Name 100000 op = some (ByteArray.mk (@List.toArray UInt8 ([] : List UInt8)), ()) := by
  unfold F_op_Name
  exact bnd _ (op_Known_spec _ op) (bT (by dsimp only; rw [decide_eq_false hk]; rfl) rfl)

theorem op_named_none : F_op_Named 100000 (ByteArray.mk (@List.toArray UInt8 ([] : List UInt8))) = some (0, (false, ())) := by kernel_rfl

theorem loopT (bs : ByteArray) : ∀ (k i : Nat) (r : List UInt8), i + k = bs.size → ByteArray.toList.loop bs i r = r.reverse ++ bs.data.toList.drop i
  | 0, i, r, h => by
    unfold ByteArray.toList.loop
    have h1 : ¬ i < bs.size := by omega
    rw [if_neg h1, List.drop_eq_nil_of_le (by
      have : bs.data.toList.length = bs.size := Array.length_toList
      omega)]
    simp
  | k + 1, i, r, h => by
    unfold ByteArray.toList.loop
    have h1 : i < bs.size := by omega
    rw [if_pos h1, loopT bs k (i + 1) _ (by omega)]
    have h2 : i < bs.data.toList.length := by
      have : bs.data.toList.length = bs.size := Array.length_toList
      omega
    have e : bs.get! i = bs.data.toList[i] := by
      unfold ByteArray.get!
      simp [getElem!_def, Array.getElem?_eq_getElem (show i < bs.data.size by simpa using h2)]
    rw [List.drop_eq_getElem_cons h2, e]
    simp

theorem toList_data (bs : ByteArray) : bs.toList = bs.data.toList := by
  unfold ByteArray.toList
  rw [loopT bs bs.size 0 [] (by omega)]
  simp

theorem bytes_inj' {a b : ByteArray} (h : a.toList = b.toList) : a = b := by
  rw [toList_data, toList_data] at h
  cases a; cases b
  simp only [ByteArray.mk.injEq]
  exact Array.toList_inj.1 h

theorem idx_none (N : Nat) (L : List ByteArray) (s : ByteArray) (hl : L.length ≤ 1000) (h : ∀ i, i < L.length → (s.toList == (L.getD i (dfl Ty.str)).toList) = false) : ∀ (cnt i : Nat), i ≤ L.length → L.length < cnt + i →
    g_slices_Index_string_string_0 N cnt L s L.length i = some (.inl ())
  | 0, i, h1, h2 => by omega
  | cnt + 1, i, h1, h2 => by
    rw [g_slices_Index_string_string_0]
    by_cases hi : i < L.length
    · refine cT (by omega) (cT (by omega) (cT (by simpa using hi) ?_))
      rw [Int.toNat_natCast, h i hi, wi64_succ (by omega)]
      exact idx_none N L s hl h cnt (i + 1) hi (by omega)
    · exact cF (by omega) rfl

def namesL : List ByteArray := match F_op_names 100000 with
  | some (l, _) => l
  | none => []

theorem names_L : F_op_names 100000 = some (namesL, ()) := by kernel_rfl

theorem namesL_len : namesL.length = 18 := by kernel_rfl

theorem namesL_all : (List.range 18).map (fun i => namesL.getD i (dfl Ty.str)) = (List.range 18).map (fun i => nmOf ((4 + i : Nat) : Int)) := by kernel_rfl

theorem namesL_get {i : Nat} (hi : i < 18) : namesL.getD i (dfl Ty.str) = nmOf ((4 + i : Nat) : Int) := List.map_inj_left.1 namesL_all i (by simpa using hi)

theorem OpNames_all : (List.range 18).map (fun i => F_lodgelaw12_OpNames 100000 (nmOf ((4 + i : Nat) : Int))) = (List.range 18).map (fun _ => some (true, ())) := by kernel_rfl

theorem op_named_not {s : ByteArray} (h : ∀ k : Nat, k < 18 → (s.toList == (nmOf ((4 + k : Nat) : Int)).toList) = false) : F_op_Named 100000 s = some (0, (false, ())) := by
  unfold F_op_Named
  refine bnd _ names_L (cT (by simp) ?_)
  dsimp only
  rw [List.take_length]
  have h0 := idx_none 100000 namesL s (by rw [namesL_len]; omega) (fun i hi => by
    rw [namesL_len] at hi
    rw [namesL_get hi]
    exact h i hi) 100000 0 (by omega) (by rw [namesL_len]; omega)
  rw [show ((0 : Nat) : Int) = 0 from rfl] at h0
  refine bnd (-1, ()) ?_ (cT (by decide) rfl)
  unfold F_slices_Index_string_string
  exact bnd _ h0 rfl

theorem loop_OpNames {s : ByteArray} (h : ∀ k : Nat, k < 18 → ((nmOf ((4 + k : Nat) : Int)).toList == s.toList) = false) : ∀ (cnt j : Nat), j ≤ 18 → 18 < cnt + j →
    g_lodgelaw12_OpNames_0 100000 cnt s true 0 ((4 + j : Nat) : Int) = some (.inl (s, (true, (0, ()))))
  | 0, j, h1, h2 => by omega
  | cnt + 1, j, h1, h2 => by
    rw [g_lodgelaw12_OpNames_0]
    by_cases hj : j < 18
    · have hk : 4 ≤ ((4 + j : Nat) : Int) ∧ ((4 + j : Nat) : Int) ≤ 21 := by omega
      obtain ⟨n1, n2⟩ := op_name_known hk
      have hin : ¬ (((insN ((4 + j : Nat) : Int) : Nat) : Int) < 1) := by
        unfold insN
        split
        · omega
        · first | omega | (rw [if_pos hk]; omega)
      refine cT (by omega) (bnd _ n1 (bnd _ n2 (bF rfl (cF (fun h => h rfl) (bnd _ (op_Known_spec _ _) (bF (by dsimp only; rw [decide_eq_true hk]; rfl) (bnd _ (op_Ins_spec _ _) (cF hin (bnd _ n1 (bF (h j hj) ?_))))))))))
      have e : wi64 (((4 + j : Nat) : Int) + 1) = ((4 + (j + 1) : Nat) : Int) := by rw [wi64_in (by omega) (by omega)]; omega
      rw [e]
      exact loop_OpNames h cnt (j + 1) hj (by omega)
    · exact cF (by omega) rfl

theorem OpNames_law (h1st : F_lodgelaw12_first 100000 = some (true, ())) (s : ByteArray) : F_lodgelaw12_OpNames 100000 s = some (true, ()) := by
  by_cases hex : ∃ k : Nat, k < 18 ∧ s.toList = (nmOf ((4 + k : Nat) : Int)).toList
  · obtain ⟨k, hk, e⟩ := hex
    rw [bytes_inj' e]
    exact List.map_inj_left.1 OpNames_all k (by simpa using hk)
  · have h1 : ∀ k : Nat, k < 18 → (s.toList == (nmOf ((4 + k : Nat) : Int)).toList) = false := by
      intro k hk
      rw [beq_eq_false_iff_ne]
      exact fun e => hex ⟨k, hk, e⟩
    have h2 : ∀ k : Nat, k < 18 → ((nmOf ((4 + k : Nat) : Int)).toList == s.toList) = false := by
      intro k hk
      rw [beq_eq_false_iff_ne]
      exact fun e => hex ⟨k, hk, e.symm⟩
    unfold F_lodgelaw12_OpNames
    refine bnd _ h1st (bF rfl ?_)
    have h0 := loop_OpNames h2 100000 0 (by omega) (by omega)
    rw [show ((4 + 0 : Nat) : Int) = 4 from rfl] at h0
    refine bnd _ h0 ?_
    dsimp only [Sum.elim_inl]
    refine bnd _ (op_named_not h1) ?_
    kernel_rfl

theorem OpNames_row {N : Nat} (hN : N = 100000) (x : Val (rowTy ps_lodgelaw12_OpNames)) (_ : FitsL ps_lodgelaw12_OpNames x) : (c_lodgelaw12_OpNames N).g x = some (true, ()) := by
  have h1 := op_first hN
  have := OpNames_law (by rw [← hN]; exact h1) x.1
  rw [← hN] at this
  exact this

end Go.Proofs.YtnblnlanicpagaaDoor.Lg
