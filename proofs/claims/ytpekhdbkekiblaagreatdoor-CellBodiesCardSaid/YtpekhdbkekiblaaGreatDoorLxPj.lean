/-
  Texts of the proof, one behind the other.
-/
import Derived.Test.YtpekhdbkekiblaaGreatDoorLxPi
import Derived.LaidHandle
import Derived.JoinedOf

/-
  The law CellBodies, in plain words: a body says its parts one behind the other.
-/
namespace Go.Proofs.YtpekhdbkekiblaaGreatDoor.Lx
open Go Go.Eng Go.Proofs

theorem valid0_some (N : Nat) (d : (List Int × Bool) × Unit) (m : Int) (l : List Int) (hl : l.length < 1000) : ∀ (n i : Nat), i ≤ l.length → l.length < n + i →
    Yld (g_shape_Valid_0 N n d m l (l.length : Int) (i : Int)) fun y => (∃ e, y = .inr e) ∨ y = .inl ((), (d, (m, ())))
  | 0, i, h, h' => by omega
  | n + 1, i, h, h' => by
    rw [g_shape_Valid_0]
    refine Yld.ite (fun h1 => ?_) (fun _ => Yld.ret (.inr rfl))
    have hi : i < l.length := Int.ofNat_lt.1 h1
    refine Yld.cT (Int.natCast_nonneg _) ?_
    rw [Int.toNat_natCast]
    refine Yld.cT hi ?_
    refine Yld.ite (fun _ => Yld.ret (.inl ⟨_, rfl⟩)) (fun _ => ?_)
    refine Yld.ite (fun _ => Yld.ret (.inl ⟨_, rfl⟩)) (fun _ => ?_)
    rw [wi64_succ (by omega)]
    exact valid0_some N d m l hl n (i + 1) hi (by omega)

theorem valid1_some (N : Nat) (l : List Int) (hl : l.length < 1000) : ∀ (n i : Nat) (m : Int), i ≤ l.length → l.length < n + i →
    Yld (g_shape_Valid_1 N n m l (l.length : Int) (i : Int)) fun _ => True
  | 0, i, m, h, h' => by omega
  | n + 1, i, m, h, h' => by
    rw [g_shape_Valid_1]
    refine Yld.ite (fun h1 => ?_) (fun _ => Yld.ret trivial)
    have hi : i < l.length := Int.ofNat_lt.1 h1
    refine Yld.cT (Int.natCast_nonneg _) ?_
    rw [Int.toNat_natCast]
    refine Yld.cT hi ?_
    refine Yld.ite (fun _ => Yld.ret trivial) (fun _ => ?_)
    rw [wi64_succ (by omega)]
    exact valid1_some N l hl n (i + 1) _ hi (by omega)

theorem shapeValid_some {N : Nat} (hN : 2000 ≤ N) (d : List Int × Bool) : Yld (F_shape_Valid N d) fun _ => True := by
  unfold F_shape_Valid
  refine Yld.ite (fun _ => Yld.ret trivial) (fun h => ?_)
  refine Yld.bind (valid0_some N (d, ()) 1 d.1 (by omega) N 0 (by omega) (by omega)) ?_
  rintro y (⟨e, rfl⟩ | rfl)
  · exact Yld.ret trivial
  · refine Yld.bind (valid1_some N d.1 (by omega) N 0 1 (by omega) (by omega)) ?_
    rintro (y | y) -
    · exact Yld.ret trivial
    · exact Yld.ret trivial

theorem elems0_some (N : Nat) (l : List Int) (hl : l.length < 1000) : ∀ (n i : Nat) (m : Int), i ≤ l.length → l.length < n + i →
    Yld (g_shape_Elems_0 N n m l (l.length : Int) (i : Int)) fun _ => True
  | 0, i, m, h, h' => by omega
  | n + 1, i, m, h, h' => by
    rw [g_shape_Elems_0]
    refine Yld.ite (fun h1 => ?_) (fun _ => Yld.ret trivial)
    have hi : i < l.length := Int.ofNat_lt.1 h1
    refine Yld.cT (Int.natCast_nonneg _) ?_
    rw [Int.toNat_natCast]
    refine Yld.cT hi ?_
    rw [wi64_succ (by omega)]
    exact elems0_some N l hl n (i + 1) _ hi (by omega)

theorem elems_some {N : Nat} (hN : 2000 ≤ N) (l : List Int) (hl : l.length < 1000) : Yld (F_shape_Elems N l) fun _ => True := by
  unfold F_shape_Elems F_shape_fair
  refine Yld.bind (Q := fun _ => True) ?_ ?_
  · refine Yld.bind (shapeValid_some hN (l, false)) ?_
    intro a _
    exact Yld.ret trivial
  · intro a _
    refine Yld.cond (fun _ => Yld.ret trivial) (fun _ => ?_)
    refine Yld.bind (elems0_some N l hl N 0 1 (by omega) (by omega)) ?_
    intro a _
    exact Yld.ret trivial

theorem fits_some (N : Nat) (n : Int) (w : Bool) : Yld (F_tens_fits N n w) fun _ => True := by
  unfold F_tens_fits
  refine Yld.cond (fun _ => ?_) (fun _ => ?_)
  · exact Yld.ite (fun _ => Yld.ret trivial) (fun _ => Yld.ret trivial)
  · exact Yld.ite (fun _ => Yld.ret trivial) (fun _ => Yld.ret trivial)

theorem tvalid0_some (N : Nat) (t : ((List Int × Bool) × List Int) × Unit) (l : List Int) (hl : l.length < 1000) : ∀ (n i : Nat), i ≤ l.length → l.length < n + i →
    Yld (g_tens_Valid_0 N n t l (l.length : Int) (i : Int)) fun _ => True
  | 0, i, h, h' => by omega
  | n + 1, i, h, h' => by
    rw [g_tens_Valid_0]
    refine Yld.ite (fun h1 => ?_) (fun _ => Yld.ret trivial)
    have hi : i < l.length := Int.ofNat_lt.1 h1
    refine Yld.cT (Int.natCast_nonneg _) ?_
    rw [Int.toNat_natCast]
    refine Yld.cT hi ?_
    refine Yld.bind (fits_some _ _ _) ?_
    intro y _
    refine Yld.cond (fun _ => Yld.ret trivial) (fun _ => ?_)
    rw [wi64_succ (by omega)]
    exact tvalid0_some N t l hl n (i + 1) hi (by omega)

abbrev Tn := (List Int × Bool) × List Int

/-- a tensor is weighed; and where nothing is amiss, it has as many cells as its shape says -/
theorem tensValid_some {N : Nat} (hN : 2000 ≤ N) (t : Tn) (hs : t.1.1.length ≤ 8) (hd : t.2.length ≤ 100) :
    ∃ e, F_tens_Valid N t = some ((), (e, ())) ∧ (e.isNil = true → F_shape_Elems N t.1.1 = some ((), ((t.2.length : Int), ()))) := by
  have h : Yld (F_tens_Valid N t) fun y => y.2.1.isNil = true → F_shape_Elems N t.1.1 = some ((), ((t.2.length : Int), ())) := by
    unfold F_tens_Valid
    refine Yld.bind (shapeValid_some hN t.1) ?_
    intro a _
    refine Yld.cond (fun h => Yld.ret fun h2 => ?_) (fun _ => ?_)
    · have h2' : a.2.1.isNil = true := h2
      rw [h2'] at h; cases h
    · obtain ⟨y, hy, -⟩ := elems_some hN t.1.1 (by omega)
      refine Yld.bnd y hy ?_
      refine Yld.ite (fun _ => Yld.ret fun h2 => by cases h2) (fun h => ?_)
      have h' : (t.2.length : Int) = y.2.1 := Classical.not_not.1 h
      have hE : F_shape_Elems N t.1.1 = some ((), ((t.2.length : Int), ())) := by rw [hy, h']
      refine Yld.bind (tvalid0_some N (t, ()) t.2 (by omega) N 0 (by omega) (by omega)) ?_
      rintro (y | y) -
      · exact Yld.ret fun _ => hE
      · exact Yld.ret fun _ => hE
  obtain ⟨⟨⟨⟩, e, ⟨⟩⟩, h1, h2⟩ := h
  exact ⟨e, h1, h2⟩

theorem putB_len (n : Int) (w : Bool) : (putB n w).length ≤ 4 := by cases w <;> simp [putB]

theorem raw0_some (N : Nat) (t : Tn × Unit) (l : List Int) (hl : l.length < 1000) : ∀ (n i : Nat) (b : List Int), b.length ≤ 4 * i → i ≤ l.length → l.length < n + i →
    Yld (g_tens_Raw_0 N n t b l (l.length : Int) (i : Int)) fun y => y.2.1.length ≤ 4 * l.length
  | 0, i, b, hb, h, h' => by omega
  | n + 1, i, b, hb, h, h' => by
    rw [g_tens_Raw_0]
    refine Yld.ite (fun h1 => ?_) (fun _ => Yld.cT rfl (Yld.ret (show b.length ≤ 4 * l.length by omega)))
    have hi : i < l.length := Int.ofNat_lt.1 h1
    refine Yld.cT (Int.natCast_nonneg _) ?_
    rw [Int.toNat_natCast]
    refine Yld.cT hi ?_
    refine Yld.cT (Nat.zero_add _) ?_
    rw [List.take_length]
    generalize hp : putB (List.getD l i 0) t.1.1.2 = p
    have hp4 : p.length ≤ 4 := hp ▸ putB_len _ _
    refine Yld.cT (show (b.length + p.length) * 2 ≤ most by unfold most; omega) ?_
    refine Yld.cT (List.length_append).symm ?_
    rw [wi64_succ (by omega)]
    exact raw0_some N t l hl n (i + 1) _ (by rw [List.length_append]; omega) hi (by omega)

theorem raw_some {N : Nat} (hN : 2000 ≤ N) (t : Tn) (hs : t.1.1.length ≤ 8) (hd : t.2.length ≤ 100) : Yld (F_tens_Raw N t) fun y => y.2.1.length ≤ 400 := by
  obtain ⟨e, he, hE⟩ := tensValid_some hN t hs hd
  unfold F_tens_Raw
  refine Yld.bnd _ he ?_
  refine Yld.cond (fun _ => Yld.ret (Nat.zero_le _)) (fun h => ?_)
  have hn : e.isNil = true := by
    have : (!e.isNil) = false := h
    simpa using this
  have hE' := hE hn
  have hB : Yld (F_shape_Bytes N t.1) fun y => 0 ≤ y.2.1 ∧ y.2.1 ≤ 400 := by
    unfold F_shape_Bytes
    refine Yld.cond (fun _ => Yld.bnd _ hE' (Yld.ret ?_)) (fun _ => Yld.bnd _ hE' (Yld.ret ?_))
    · show 0 ≤ wi64 (4 * (t.2.length : Int)) ∧ wi64 (4 * (t.2.length : Int)) ≤ 400
      rw [wi64_in (by omega) (by omega)]
      omega
    · show 0 ≤ (t.2.length : Int) ∧ (t.2.length : Int) ≤ 400
      omega
  refine Yld.bind hB ?_
  rintro ⟨_, k, _⟩ ⟨h0, h1⟩
  refine Yld.cT h0 ?_
  refine Yld.cT (show k * ((1 : Nat) + 1 : Int) ≤ ((1099511627776 : Nat) : Int) by simp only at h0 h1; omega) ?_
  refine Yld.bind (raw0_some N (t, ()) t.2 (by omega) N 0 [] (by simp) (by omega) (by omega)) ?_
  intro y hy
  refine Yld.cT rfl (Yld.ret ?_)
  have hy' : y.2.1.length ≤ 4 * t.2.length := hy
  show y.2.1.length ≤ 400
  omega

theorem bytes0_some (N : Nat) (t : Tn × Unit) (l : List Int) (hl : l.length < 1000) : ∀ (n i : Nat) (b : List Int), b.length ≤ 2 * i + 1 → i ≤ l.length → l.length < n + i →
    Yld (g_tens_Bytes_0 N n t b l (l.length : Int) (i : Int)) fun y => y.2.1 = t ∧ y.2.2.1.length ≤ 2 * l.length + 1
  | 0, i, b, hb, h, h' => by omega
  | n + 1, i, b, hb, h, h' => by
    rw [g_tens_Bytes_0]
    refine Yld.ite (fun h1 => ?_) (fun _ => Yld.cT rfl (Yld.ret ⟨rfl, show b.length ≤ 2 * l.length + 1 by omega⟩))
    have hi : i < l.length := Int.ofNat_lt.1 h1
    refine Yld.cT (Int.natCast_nonneg _) ?_
    rw [Int.toNat_natCast]
    refine Yld.cT hi ?_
    refine Yld.cT (Nat.zero_add _) ?_
    rw [List.take_length]
    refine Yld.cT (show (b.length + 2) * (1 + 1) ≤ most by unfold most; omega) ?_
    refine Yld.cT (show b.length + 2 = _ by rw [List.length_append]; rfl) ?_
    rw [wi64_succ (by omega)]
    exact bytes0_some N t l hl n (i + 1) _ (by rw [List.length_append]; simp only [List.length_cons, List.length_nil]; omega) hi (by omega)

theorem bytes_some {N : Nat} (hN : 2000 ≤ N) (t : Tn) (hs : t.1.1.length ≤ 8) (hd : t.2.length ≤ 100) : ∃ B, F_tens_Bytes N t = some ((), (B, ())) ∧ B.length ≤ 420 := by
  have h : Yld (F_tens_Bytes N t) fun y => y.2.1.length ≤ 420 := by
    obtain ⟨e, he, -⟩ := tensValid_some hN t hs hd
    unfold F_tens_Bytes
    refine Yld.bnd _ he ?_
    refine Yld.cond (fun _ => Yld.ret (Nat.zero_le _)) (fun _ => ?_)
    refine Yld.cond (fun _ => ?_) (fun _ => ?_)
    all_goals
      refine Yld.bind (bytes0_some N (t, ()) t.1.1 (by omega) N 0 _ (by simp) (by omega) (by omega)) ?_
      rintro ⟨⟨⟩, t', b, ⟨⟩⟩ ⟨ht, hb⟩
      obtain rfl : t' = (t, ()) := ht
      refine Yld.bind (raw_some hN t hs hd) ?_
      rintro ⟨⟨⟩, r, ⟨⟩⟩ hr
      have hr' : r.length ≤ 400 := hr
      have hb' : b.length ≤ 2 * t.1.1.length + 1 := hb
      refine Yld.cT (by simp) ?_
      refine Yld.cT (by simp) ?_
      refine Yld.cT (by simp only [List.take_length]; unfold most; omega) ?_
      refine Yld.cT (by simp) ?_
      refine Yld.ret ?_
      simp only [List.take_length, List.length_append]
      omega
  obtain ⟨⟨⟨⟩, B, ⟨⟩⟩, h1, h2⟩ := h
  exact ⟨B, h1, h2⟩

theorem same0_some (N : Nat) (l : List Int) (hl : l.length < 90000) : ∀ (n i : Nat), i ≤ l.length → l.length < n + i → g_lodgeref_SameBytes_0 N n l l (i : Int) = some (.inl ((), ()))
  | 0, i, h, h' => by omega
  | n + 1, i, h, h' => by
    rw [g_lodgeref_SameBytes_0]
    by_cases hi : i < l.length
    · refine cT (Int.ofNat_lt.2 hi) ?_
      refine cT (Int.natCast_nonneg _) ?_
      rw [Int.toNat_natCast]
      refine cT hi ?_
      refine cT (Int.natCast_nonneg _) ?_
      refine cT hi ?_
      rw [decide_eq_true rfl]
      refine bF rfl ?_
      rw [wi64_succ (by omega)]
      exact same0_some N l hl n (i + 1) hi (by omega)
    · exact cF (by omega) rfl

theorem same_ok {N : Nat} (hN : 90000 ≤ N) (l : List Int) (hl : l.length < 90000) : F_lodgeref_SameBytes N l l = some ((), (true, ())) := by
  unfold F_lodgeref_SameBytes
  refine cF (fun h => h rfl) ?_
  exact bnd _ (same0_some N l hl N 0 (by omega) (by omega)) rfl

end Go.Proofs.YtpekhdbkekiblaaGreatDoor.Lx

/-
  The law CellBodies, in plain words: a body says its parts one behind the other.
-/
namespace Go.Proofs.YtpekhdbkekiblaaGreatDoor.Lx
open Go Go.Eng Go.Proofs

abbrev Part := Sum Int (Sum Int (Sum (List Int) (Sum Tn (Sum ByteArray (Sum Nat Unit)))))
def partsOf (n u : Int) (b : List Int) (t : Tn) : List Part :=
  [.inl n, .inr (.inl u), .inr (.inr (.inl b)), .inr (.inr (.inr (.inl t))), .inr (.inr (.inr (.inr (.inl (ByteArray.mk (@List.toArray UInt8 [110, 111])))))), .inr (.inr (.inr (.inr (.inr (.inl 4609434218613702656)))))]
def headB (n u : Int) : List Int := [wu8 n, wu8 u, wu8 (shrI .u32 u 8), wu8 (shrI .u32 u 16), wu8 (shrI .u32 u 24)]

theorem body12 (N k : Nat) (n u : Int) (b : List Int) (t : Tn) : g_cell_Body_0 N (k + 2) [] (partsOf n u b t) 6 0 = g_cell_Body_0 N k (headB n u) (partsOf n u b t) 6 2 := by kernel_rfl

theorem body3 (N k : Nat) (n u : Int) (b : List Int) (t : Tn) (hb : b.length ≤ 100) : g_cell_Body_0 N (k + 1) (headB n u) (partsOf n u b t) 6 2 = g_cell_Body_0 N k (headB n u ++ b) (partsOf n u b t) 6 3 := by
  rw [g_cell_Body_0]
  refine cT (by decide) ?_
  refine cT (by decide) ?_
  refine cT (show 2 < 6 by decide) ?_
  refine bF rfl ?_
  refine bF rfl ?_
  refine bT rfl ?_
  refine cT rfl ?_
  refine cT (show (5 + b.length) * (1 + 1) ≤ most by unfold most; omega) ?_
  refine cT (show 5 + b.length = (headB n u ++ b).length by rw [List.length_append]; rfl) ?_
  rfl

theorem body4 (N k : Nat) (n u : Int) (b : List Int) (t : Tn) (hb : b.length ≤ 100) (a : List Int) (ha : a.length ≤ 105) (B : List Int) (hB : F_tens_Bytes N t = some ((), (B, ()))) (hl : B.length ≤ 420) :
    g_cell_Body_0 N (k + 1) a (partsOf n u b t) 6 3 = g_cell_Body_0 N k (a ++ B) (partsOf n u b t) 6 4 := by
  rw [g_cell_Body_0]
  refine cT (by decide) ?_
  refine cT (by decide) ?_
  refine cT (show 3 < 6 by decide) ?_
  refine bF rfl ?_
  refine bF rfl ?_
  refine bF rfl ?_
  refine bT rfl ?_
  refine bnd _ hB ?_
  refine cT (by simp) ?_
  refine cT (by simp) ?_
  refine cT (show (a.length + (List.take B.length B).length) * (1 + 1) ≤ most by rw [List.take_length]; unfold most; omega) ?_
  refine cT (show a.length + (List.take B.length B).length = (List.take a.length a ++ List.take B.length B).length by rw [List.take_length, List.take_length, List.length_append]) ?_
  show g_cell_Body_0 N k (List.take a.length a ++ List.take B.length B) (partsOf n u b t) 6 4 = _
  rw [List.take_length, List.take_length]

theorem body567 (N k : Nat) (n u : Int) (b : List Int) (t : Tn) (a : List Int) : g_cell_Body_0 N (k + 3) a (partsOf n u b t) 6 4 = some ((), (a, ())) := by
  rw [g_cell_Body_0]
  refine cT (by decide) ?_
  refine cT (by decide) ?_
  refine cT (show 4 < 6 by decide) ?_
  refine bF rfl ?_
  refine bF rfl ?_
  refine bF rfl ?_
  refine bF rfl ?_
  refine cT rfl ?_
  show g_cell_Body_0 N (k + 2) a (partsOf n u b t) 6 5 = _
  rw [g_cell_Body_0]
  refine cT (by decide) ?_
  refine cT (by decide) ?_
  refine cT (show 5 < 6 by decide) ?_
  refine bF rfl ?_
  refine bF rfl ?_
  refine bF rfl ?_
  refine bF rfl ?_
  refine cT rfl ?_
  show g_cell_Body_0 N (k + 1) a (partsOf n u b t) 6 6 = _
  rw [g_cell_Body_0]
  refine cF (by decide) ?_
  exact cT rfl rfl

theorem body_ok (n u : Int) (b : List Int) (t : Tn) (hb : b.length ≤ 100) (B : List Int) (hB : F_tens_Bytes 100000 t = some ((), (B, ()))) (hl : B.length ≤ 420) :
    F_cell_Body 100000 (partsOf n u b t) = some ((), (headB n u ++ b ++ B, ())) := by
  have h : g_cell_Body_0 100000 100000 [] (partsOf n u b t) ((partsOf n u b t).length : Int) 0 = some ((), (headB n u ++ b ++ B, ())) := by
    show g_cell_Body_0 100000 (99998 + 2) [] (partsOf n u b t) 6 0 = _
    rw [body12]
    show g_cell_Body_0 100000 (99997 + 1) (headB n u) (partsOf n u b t) 6 2 = _
    rw [body3 _ _ _ _ _ _ hb]
    show g_cell_Body_0 100000 (99996 + 1) (headB n u ++ b) (partsOf n u b t) 6 3 = _
    rw [body4 _ _ _ _ _ _ hb _ (by rw [List.length_append]; simp only [headB, List.length_cons, List.length_nil]; omega) B hB hl]
    exact body567 100000 99993 n u b t _
  unfold F_cell_Body
  refine bnd _ h ?_
  exact cT rfl rfl

theorem body_none : F_cell_Body 100000 ([] : List Part) = some ((), ([], ())) := by kernel_rfl

theorem cellBodies_law (n u : Int) (b : List Int) (t : Tn) : Yld (F_lodgelaw28_CellBodies 100000 [] [] [] [] [] [] [] [] [] [] [] [] [] n u b t) fun y => y.2.1 = true := by
  obtain ⟨y, hy, ht⟩ := first_ok
  unfold F_lodgelaw28_CellBodies
  refine Yld.bnd _ hy ?_
  refine Yld.bF (by rw [ht]; rfl) ?_
  refine Yld.ite (fun _ => Yld.ret ht) (fun hb => ?_)
  have hb' : b.length ≤ 100 := by omega
  by_cases hs : t.1.1.length ≤ 8
  · refine Yld.bnd ((), (decide ((t.2.length : Int) ≤ 100), ())) ?_ ?_
    · unfold F_lodgeworld_Tensor F_lodgeworld_Desc
      refine bnd _ rfl ?_
      exact cT (by omega) rfl
    by_cases hd : t.2.length ≤ 100
    · refine Yld.bF (show (!decide ((t.2.length : Int) ≤ 100)) = false by rw [decide_eq_true (by omega)]; rfl) ?_
      refine Yld.bF (by rw [ht]; rfl) ?_
      obtain ⟨B, hB, hl⟩ := bytes_some (N := 100000) (by omega) t hs hd
      refine Yld.bnd _ (body_ok n u b t hb' B hB hl) ?_
      refine Yld.cT (by unfold most; omega) ?_
      refine Yld.bnd _ hB ?_
      refine Yld.cT (by simp) ?_
      have e5 : ∀ l : List Int, (wu8 n :: wu8 u :: wu8 (shrI .u32 u 8) :: wu8 (shrI .u32 u 16) :: wu8 (shrI .u32 u 24) :: []) ++ l = headB n u ++ l := fun _ => rfl
      have e6 : (headB n u ++ b).length = 5 + b.length := by rw [List.length_append]; rfl
      refine Yld.cT (show 0 + (5 + b.length) = (headB n u ++ b).length by rw [e6]; omega) ?_
      refine Yld.cT (show ((5 + b.length) + (List.take B.length B).length) * (1 + 1) ≤ most by rw [List.take_length]; unfold most; omega) ?_
      refine Yld.cT (by simp) ?_
      have e7 : List.take (5 + b.length) (headB n u ++ b) = headB n u ++ b := by rw [← e6, List.take_length]
      refine Yld.cT (show 0 + ((5 + b.length) + (List.take B.length B).length) ≤ (List.take (5 + b.length) (headB n u ++ b) ++ List.take B.length B).length by rw [e7, List.take_length, List.length_append, e6]; omega) ?_
      have e8 : List.take ((5 + b.length) + (List.take B.length B).length) (List.take (5 + b.length) (headB n u ++ b) ++ List.take B.length B) = headB n u ++ b ++ B := by
        rw [e7, List.take_length, ← e6, ← List.length_append, List.take_length]
      refine Yld.bnd ((), (true, ())) ?_ ?_
      · show F_lodgeref_SameBytes 100000 (List.take (headB n u ++ b ++ B).length (headB n u ++ b ++ B)) (List.take ((5 + b.length) + (List.take B.length B).length) (List.take (5 + b.length) (headB n u ++ b) ++ List.take B.length B)) = _
        rw [e8, List.take_length]
        exact same_ok (by omega) _ (by rw [List.length_append, e6]; omega)
      refine Yld.bT rfl ?_
      refine Yld.bnd _ body_none ?_
      exact Yld.ret rfl
    · exact Yld.bT (show (!decide ((t.2.length : Int) ≤ 100)) = true by rw [decide_eq_false (by omega)]; rfl) (Yld.ret ht)
  · refine Yld.bnd ((), (false, ())) ?_ ?_
    · unfold F_lodgeworld_Tensor F_lodgeworld_Desc
      refine bnd _ rfl ?_
      exact bF (decide_eq_false (by omega)) rfl
    exact Yld.bT rfl (Yld.ret ht)

theorem cellBodies_row (x : Val (rowTy ps_lodgelaw28_CellBodies)) (_ : FitsL ps_lodgelaw28_CellBodies x) :
    Yld (F_lodgelaw28_CellBodies 100000 [] [] [] [] [] [] [] [] [] [] [] [] [] x.1 x.2.1 x.2.2.1 x.2.2.2.1) fun y => y.2.1 = true := cellBodies_law _ _ _ _

end Go.Proofs.YtpekhdbkekiblaaGreatDoor.Lx

/-
  The abstract machine: the world at a call's beginning where a listed variable holds a type's handle.
-/
namespace Go.Eng

theorem laidMetH_split {P : Program} {W : World} {l : List (String × DataW Unit)} {x : String × DataW Unit} (h : laidMetH P l W) (e : (l.filter fun x => x.2.handleName?.isSome) = [x]) :
    laidMet P (l.filter fun x => x.2.handleName?.isNone) W ∧ handlesMet P [x] W := by
  unfold laidMetH at h
  rw [e] at h
  exact h

/-- the one cell of a variable that holds a type's handle -/
theorem handle_at {P : Program} {W : World} {n : String} {s : List UInt8} {g : Nat} {u t : TypeId} (h : handlesMet P [(n, .iface "internal/reflectlite.rtype" (.agg [.ptr (.lit (.string s))]))] W)
    (hg : P.globalNamed n = some g) (hu : (P.cutTypes.find? (·.1 == "internal/reflectlite.rtype")).map (·.2) = some u)
    (hs : (DataW.iface "internal/reflectlite.rtype" (.agg [.ptr (.lit (.string s))]) : DataW Unit).handleName? = some s)
    (hf : (DataW.iface "internal/reflectlite.rtype" (.agg [.ptr (.lit (.string s))]) : DataW Unit).funcsIn? = none)
    (ht : ∀ ty, ty < P.types.size → P.rowNamed ty s = true → ty = t) : ∃ T fz, W.heap[g]? = some (.cells #[.iface u (.agg #[typeHandle P t])] T fz) := by
  have h0 := h (n, .iface "internal/reflectlite.rtype" (.agg [.ptr (.lit (.string s))])) (by simp)
  rw [hf] at h0
  obtain ⟨name, u', ty, e1, e2, e3, e4, e5⟩ := h0
  obtain rfl : s = name := Option.some.inj (hs.symm.trans e1)
  obtain rfl : u = u' := Option.some.inj (hu.symm.trans e2)
  obtain rfl : ty = t := ht ty e3 e4
  have e5' : W.var? P n = some #[.iface u (.agg #[typeHandle P ty])] := e5
  unfold World.var? at e5'
  rw [hg] at e5'
  simp only [Option.bind_some] at e5'
  split at e5'
  · rename_i cs T fz hh
    injection e5' with e5'
    subst e5'
    exact ⟨T, fz, hh⟩
  · cases e5'

section
variable {P : Program} {nm : String} {ti tp te ts : TypeId}

/-- THE WORLD AT A CALL's BEGINNING is as the machine takes it to be. -/
theorem laid_wokM (hO : ErrsOK P nm ti tp te ts) {E : Env} {ns : List (String × List UInt8 × Nat)} (hg : ∀ x, x ∈ ns → P.globalNamed x.1 = some x.2.2 ∧ (P.globals[x.2.2]?).map (·.type) = some ti)
    {W : World} (hglob : ∀ g row, E.glob g = some row → (row = [.er (.s g)] ∧ ∃ x, x ∈ ns ∧ x.2.2 = g) ∨
      (∃ u q, row = [.iface u (.agg [.v (.pointer (some q))])] ∧ ∃ T fz, W.heap[g]? = some (.cells #[.iface u (.agg #[.pointer (some q)])] T fz)))
    (ht : E.errT = tp) (hne : E.atT ≠ E.errT) (h : laidMet P (laidOf nm ns) W) : WOK P E (iniOf W) W := by
  obtain ⟨ps, hl, hnd, hrows⟩ := h
  obtain ⟨h1, h2⟩ := laid_errs hO hl hg hrows hnd
  have hglob' : ∀ g, E.glob g = some [.er (.s g)] → ∃ x, x ∈ ns ∧ x.2.2 = g := fun g e => by
    rcases hglob g _ e with ⟨_, h⟩ | ⟨u, q, h, _⟩
    · exact h
    · cases h
  refine ⟨fun g row hr => ?_, fun w' hw t ms hms g g' hg1 hg2 => ?_, hne⟩
  · rcases hglob g row hr with ⟨rfl, x, hx, rfl⟩ | ⟨u, q, rfl, T, fz, hh⟩
    · obtain ⟨⟨T, fz, hh⟩, _⟩ := h1 x hx
      refine ⟨lt_of_heap hh, _, T, fz, hh, ?_⟩
      simp only [RepL, Rep, RepE]
      exact ⟨_, [], rfl, ⟨hr, by show _ = Value.iface E.errT _; rw [ht]; rfl⟩, rfl⟩
    · refine ⟨lt_of_heap hh, _, T, fz, hh, ?_⟩
      simp only [RepL, Rep]
      exact ⟨_, [], rfl, ⟨_, rfl, #[_], rfl, _, [], rfl, rfl, rfl⟩, rfl⟩
  · obtain ⟨x, hx, rfl⟩ := hglob' g hg1
    obtain ⟨y, hy, rfl⟩ := hglob' g' hg2
    obtain ⟨i, j, hinfo, hcomp, hte, hsz⟩ := hO.info
    rw [ht]
    by_cases e : x.2.2 = y.2.2
    · rw [e, decide_eq_true rfl]
      exact run_equalIn_iface_ptr_same w' 9998 _ hms hO.hp hinfo hcomp hte
    · rw [decide_eq_false e]
      obtain ⟨c1, T1, hc1⟩ := (hrows _ _ (h1 x hx).2).1
      obtain ⟨c2, T2, hc2⟩ := (hrows _ _ (h1 y hy).2).1
      refine run_equalIn_iface_ptr_other (ca := c1) (cb := c2) (ta := T1) (tb := T2) w' 9998 hms hO.hp hinfo hcomp hte hsz (h2 x y hx hy e) ?_ ?_
      · exact (hw _ (lt_of_heap hc1)).trans hc1
      · exact (hw _ (lt_of_heap hc2)).trans hc2

end

theorem mkEnvM_glob {P : Program} {N : Names} {tys : List (TypeId × TyI)} {fs : List FuncId} {gs : List Nat} {xs : List (FuncId × ExtK)} {kinds : List (List Cell)} {kts : List (TypeId × Nat)} {kss : List (FuncId × List Nat)} {ls : List (FuncId × LstK)}
    {mks : List (TypeId × Nat)} {keys : List (TypeId × Ty)} {a : Nat} {r : List AV} {g : Nat} {row : List AV} (h : (mkEnvM P N tys fs gs xs kinds kts kss ls mks keys [(a, r)]).glob g = some row) :
    (g = a ∧ row = r) ∨ (row = [.er (.s g)] ∧ g ∈ gs) := by
  have h' : (match lookXG [(a, r)] g with
    | some r => some r
    | none => lookG gs g) = some row := h
  simp only [lookXG] at h'
  cases e : Nat.beq a g with
  | true =>
    rw [e] at h'
    obtain rfl := Nat.eq_of_beq_eq_true e
    exact .inl ⟨rfl, (Option.some.inj h').symm⟩
  | false =>
    rw [e] at h'
    exact .inr (mkEnvK_glob (P := P) (N := N) (tys := tys) (fs := fs) (xs := xs) (kinds := kinds) (kts := kts) (kss := kss) (ls := ls) h')

end Go.Eng

/-
  A row's facts, one by one: for programs over which the kernel would need too much memory at one stroke.
-/
namespace Go

def kindsOf (P : Program) (fn : Func) (c : OpenClaim) : Bool := (c.kinds == (if c.domain.isEmpty then [] else fn.params.toList.map fun t => match P.underlying t with | some (.int k) => some k | _ => none))

theorem joined_of {P : Program} {f : FuncId} {fn : Func} {s : ChangeSpec} {c : OpenClaim} (k1 : c.wf (OpenSpec.ofChange s) = true) (k2 : laidOutB P = true) (k3 : mapsRowed P = true)
    (k4 : fn.params.all (P.readableRec ·) = true) (k5 : namedTie P c.named s.vars = true) (k6 : (c.stops == []) = true) (k7 : (P.stops == []) = true) (k8 : (c.knobs == []) = true) (k9 : (P.stopKnobs == []) = true)
    (k10 : (c.inPlace == P.inPlace f) = true) (k11 : (c.unfollowed == P.unfollowed f) = true) (k12 : (c.recurses == P.recurses f) = true) (k13 : (c.named == P.varsNamed f) = true)
    (k14 : (c.maps == (fn.params.toList ++ s.plain.varTypes P).any (P.mapsRec ·)) = true) (k15 : (c.ifaces == (fn.params.toList ++ s.plain.varTypes P).any (P.ifacesRec ·)) = true) (k16 : (c.mapsOut == P.mapsAmong fn.resultTypes.toList) = true)
    (k17 : (c.loops == (fn.params.toList ++ s.plain.varTypes P).any (P.loopsFrom ·)) = true) (k17b : (c.wideKeys == (fn.params.toList ++ s.plain.varTypes P ++ fn.resultTypes.toList).any (P.wideKeysFrom ·)) = true)
    (k18 : s.vars.all (P.varReadable ·) = true) (k19 : fn.resultTypes.all (fun t => P.readableRec t && decide (t < P.types.size)) = true) (k20 : (c.ifacesOut == fn.resultTypes.toList.any (P.ifacesRec ·)) = true)
    (k21 : (c.loopsOut == fn.resultTypes.toList.any (P.loopsFrom ·)) = true) (k22 : (c.plainKeys == P.plainKeys) = true) (k23 : c.shortTexts.isNone = true) (k23b : P.stopsHeard = true) (k24 : P.mayEnter = true)
    (k24b : (c.lifted == P.liftsFinal) = true) (k24c : (P.make == some c.make) = true) (k25 : kindsOf P fn c = true)
    (k26 : (c.pinned == c.pinnedBy) = true) (k27 : (c.veiled == (fn.params.toList ++ s.plain.varTypes P ++ fn.resultTypes.toList).any (P.veiledRec ·)) = true)
    (k28 : c.veiledFits P fn.params.toList (fn.params.toList ++ s.plain.varTypes P ++ fn.resultTypes.toList) = true) : joinedFacts P f fn s c = true := by
  unfold joinedFacts
  rw [k1, k2, k3, k4, k5, k6, k7, k8, k9, k10, k11, k12, k13, k14, k15, k16, k17, k17b, k18, k19, k20, k21, k22, k23, k23b, k24, k24b, k24c, k26, k27, k28]
  simp only [Bool.true_and, Bool.and_true]
  exact k25

end Go
