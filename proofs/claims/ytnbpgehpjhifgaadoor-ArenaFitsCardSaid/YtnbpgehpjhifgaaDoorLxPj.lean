/-
  Texts of the proof, one behind the other.
-/
import Derived.Test.YtnbpgehpjhifgaaDoorLxPi

/-
  The law ArenaParts, in plain words.
-/
namespace Go.Proofs.YtnbpgehpjhifgaaDoor.Lx
open Go Go.Eng Go.Proofs

theorem first_ok : ∃ t0 t1, F_lodgelaw13_first 100000 [] [] = some ((t0, (t1, ())), (true, ())) := by
  have h : (F_lodgelaw13_first 100000 [] []).map (fun x => x.2.1) = some true := by kernel_rfl
  obtain ⟨⟨⟨t0, t1, ⟨⟩⟩, b, ⟨⟩⟩, h1, h2⟩ := Option.map_eq_some_iff.1 h
  exact ⟨t0, t1, by rw [h1, show b = true from h2]⟩

theorem Number_ok (N : Nat) (n : Int) {b : Int} (h : 0 < b) (h' : b ≤ 1099511627776) : F_lodgeworld_Number N n b = some ((), (n % b, ())) := by
  unfold F_lodgeworld_Number
  have := tmod_lt (n := n) h
  refine cT (by omega) ?_
  refine cT (by omega) ?_
  rw [wi64_in (by omega) (by omega), tmod_below h]

theorem Is_room : F_lodgesee_Is 100000 (.s ErrRoom) 106 = some ((), (true, ())) := by kernel_rfl
theorem Is_range : F_lodgesee_Is 100000 (.s ErrRange) 102 = some ((), (true, ())) := by kernel_rfl

/-- a part's length, of a number -/
def lenOf (n : Int) : Int := n % 50 + 1
theorem lenOf_in (n : Int) : 1 ≤ lenOf n ∧ lenOf n ≤ 50 := by unfold lenOf; omega

theorem gapA_end {ns : List Int} {size : Nat} {n : Int} (hn : 1 ≤ n) : gapA (row 0 ns) size n = (tot ns, ns.length, decide (n ≤ size - tot ns)) := by
  have := gapR_row hn ns 0 0 []
  rw [List.append_nil, gapR] at this
  unfold gapA
  rw [this]
  simp only [Int.zero_add, row_length]

theorem findP_none {ps : List Pt} {id : Int} (h : ∀ p, p ∈ ps → p.id ≠ id) : findP ps id = none := by
  unfold findP
  rw [List.find?_eq_none]
  intro p hp
  simpa using h p hp

/-- numbers from one on -/
def idsN (m : Nat) : List Int := (List.range m).map fun i : Nat => (i : Int)
theorem idsN_succ (m : Nat) : idsN (m + 1) = idsN m ++ [(m : Int)] := by simp [idsN, List.range_succ]

theorem ids_ne {ps : List Pt} {m : Nat} (h : ps.map (·.id) = idsN m) {id : Int} (hid : (m : Int) ≤ id) : findP ps id = none := findP_none fun p hp e => by
  have : p.id ∈ idsN m := by rw [← h]; exact List.mem_map.2 ⟨p, hp, rfl⟩
  simp only [idsN, List.mem_map, List.mem_range] at this
  obtain ⟨i, hi, e'⟩ := this
  omega

theorem insP_end {ps : List Pt} {k : Nat} (hk : k = ps.length) (p : Pt) : insP ps k p = ps ++ [p] := by
  subst hk
  simp [insP]

theorem loop_law (l : List Int) (hl : l.length ≤ 12) (at_ : Int) {a : Nat} : ∀ (n k : Nat) (T0 : TB0) (T1 : TB1) (b : List Int) (ps : List Pt), Ar T0 T1 a b ps → b.length = 700 → areas ps = row 0 ((l.take k).map lenOf) → ps.map (·.id) = idsN k → (∀ p, p ∈ ps → p.l = []) → k ≤ l.length → l.length < n + k →
    Yld (g_lodgelaw13_ArenaParts_0 100000 n T0 T1 l at_ (some a) (tot ((l.take k).map lenOf)) (k : Int)) fun y => ∃ T0' T1' ps', y = .inl ((T0', (T1', ())), (l, (at_, (some a, (tot (l.map lenOf), ()))))) ∧
      Ar T0' T1' a b ps' ∧ areas ps' = row 0 (l.map lenOf) ∧ ps'.map (·.id) = idsN l.length
  | 0, k, _, _, _, _, _, _, _, _, _, _, h' => by omega
  | n + 1, k, T0, T1, b, ps, h, hb, ha, hid, hps, hk, h' => by
    rw [g_lodgelaw13_ArenaParts_0]
    have hpl : ps.length = k := by
      have := congrArg List.length hid
      simpa [idsN] using this
    by_cases hi : k < l.length
    · have hin := lenOf_in (l.getD k 0)
      have hns : ∀ m, m ∈ (l.take k).map lenOf → 0 ≤ m ∧ m ≤ 50 := fun m hm => by
        obtain ⟨x, _, rfl⟩ := List.mem_map.1 hm
        have := lenOf_in x
        omega
      have htot := tot_bound 50 _ hns
      rw [List.length_map, List.length_take] at htot
      have hlk : (l.take (k + 1)).map lenOf = (l.take k).map lenOf ++ [lenOf (l.getD k 0)] := by
        rw [List.take_succ_eq_append_getElem hi, getD_lt hi, List.map_append]; rfl
      have hsm : Small (areas ps) := by
        rw [ha]
        exact row_small _ 0 (fun m hm => (hns m hm).1) (by omega) (by omega)
      have hg : gapA (areas ps) b.length (lenOf (l.getD k 0)) = (tot ((l.take k).map lenOf), k, true) := by
        rw [ha, gapA_end hin.1, List.length_map, List.length_take, Nat.min_eq_left (by omega), hb, decide_eq_true (by omega)]
      have hadd := Add_go (N := 100000) (id := k) h (by omega) (by omega) hsm (by omega) (size := lenOf (l.getD k 0)) (by omega) (ids_ne hid (Int.le_refl _))
      rw [hg] at hadd
      simp only [if_true] at hadd
      have hA := h.add (k := k) (id := k) (off := tot ((l.take k).map lenOf)) (size := lenOf (l.getD k 0))
      rw [insP_end hpl.symm] at hA
      refine Yld.cT (Int.ofNat_lt.2 hi) ?_
      refine Yld.cT (Int.natCast_nonneg _) ?_
      rw [Int.toNat_natCast]
      refine Yld.cT hi ?_
      refine Yld.bnd _ (Number_ok _ _ (by omega) (by omega)) ?_
      rw [show wi64 (l.getD k 0 % 50 + 1) = lenOf (l.getD k 0) from wi64_in (by omega) (by omega)]
      refine Yld.bnd _ hadd ?_
      refine Yld.bF rfl ?_
      refine Yld.cF (fun e => e rfl) ?_
      refine Yld.cF (fun e => e rfl) ?_
      refine Yld.cF (fun e => e rfl) ?_
      rw [wi64_succ (by omega), wi64_in (n := tot ((l.take k).map lenOf) + lenOf (l.getD k 0)) (by omega) (by omega)]
      rw [show tot ((l.take k).map lenOf) + lenOf (l.getD k 0) = tot ((l.take (k + 1)).map lenOf) from by rw [hlk, tot_append]; simp [tot]]
      refine loop_law l hl at_ n (k + 1) _ _ b _ hA hb ?_ ?_ ?_ hi (by omega)
      · rw [areas, List.map_append]
        show areas ps ++ _ = _
        rw [ha, hlk, row_append]
        simp [row]
      · rw [List.map_append, hid, idsN_succ]; rfl
      · intro p hp
        rcases List.mem_append.1 hp with hp | hp
        · exact hps p hp
        · rw [List.mem_singleton] at hp
          subst hp
          rfl
    · have hkl : k = l.length := by omega
      subst hkl
      refine Yld.cF (by omega) ?_
      rw [List.take_of_length_le (Nat.le_refl _)] at ha ⊢
      exact .ret ⟨T0, T1, ps, rfl, h, ha, hid⟩


theorem row_take_drop (l : List Int) (k : Nat) (hk : k < l.length) : row 0 (l.map lenOf) = row 0 ((l.take k).map lenOf) ++ (tot ((l.take k).map lenOf), lenOf (l.getD k 0)) :: row (tot ((l.take k).map lenOf) + lenOf (l.getD k 0)) ((l.drop (k + 1)).map lenOf) := by
  have h : l.map lenOf = (l.take k).map lenOf ++ lenOf (l.getD k 0) :: (l.drop (k + 1)).map lenOf := by
    rw [getD_lt hk, ← List.map_cons, ← List.drop_eq_getElem_cons hk, ← List.map_append, List.take_append_drop]
  rw [h, row_append, row, Int.zero_add]

theorem areas_length (ps : List Pt) : (areas ps).length = ps.length := by rw [areas, List.length_map]

theorem findP_at {ps : List Pt} {k : Nat} (hk : k < ps.length) {id : Int} (h : ps[k].id = id) (hne : ∀ j (hj : j < k), (ps[j]'(Nat.lt_trans hj hk)).id ≠ id) : findP ps id = some ps[k] := by
  unfold findP
  rw [List.find?_eq_some_iff_getElem]
  refine ⟨by simpa using h, k, hk, rfl, fun j hj => ?_⟩
  simpa using hne j hj

theorem filter_at {ps : List Pt} (hn : (ps.map (·.i)).Nodup) {k : Nat} (hk : k < ps.length) : (ps.filter fun p => !decide (p.i = ps[k].i)) = ps.take k ++ ps.drop (k + 1) := by
  have e : ps = ps.take k ++ ps[k] :: ps.drop (k + 1) := by rw [← List.drop_eq_getElem_cons hk, List.take_append_drop]
  have hn2 := hn
  rw [e, List.map_append, List.map_cons, List.nodup_append, List.nodup_cons] at hn2
  obtain ⟨_, ⟨h2, _⟩, h3⟩ := hn2
  obtain ⟨x, hx⟩ : ∃ x, x = ps[k] := ⟨_, rfl⟩
  rw [← hx] at h2 h3 e ⊢
  have hl : (ps.take k).filter (fun p => !decide (p.i = x.i)) = ps.take k := List.filter_eq_self.2 fun p hp => by
    have := h3 p.i (List.mem_map.2 ⟨p, hp, rfl⟩) x.i (by simp)
    simpa using this
  have hr : (ps.drop (k + 1)).filter (fun p => !decide (p.i = x.i)) = ps.drop (k + 1) := List.filter_eq_self.2 fun p hp => by
    have : p.i ≠ x.i := fun e => h2 (e ▸ List.mem_map.2 ⟨p, hp, rfl⟩)
    simpa using this
  calc (ps.filter fun p => !decide (p.i = x.i)) = ((ps.take k ++ x :: ps.drop (k + 1)).filter fun p => !decide (p.i = x.i)) := by rw [← e]
    _ = ps.take k ++ ps.drop (k + 1) := by rw [List.filter_append, hl, List.filter_cons, if_neg (by simp), hr]

/-- THE LAW -/
theorem arenaParts_law (l : List Int) (at_ : Int) : Yld (F_lodgelaw13_ArenaParts 100000 [] [] l at_) fun y => y.2.1 = true := by
  obtain ⟨t0, t1, hf⟩ := first_ok
  unfold F_lodgelaw13_ArenaParts
  refine Yld.bnd _ hf ?_
  refine Yld.bF rfl ?_
  by_cases hbig : (12 : Int) < (l.length : Int)
  · exact Yld.bnd _ (cT hbig rfl) (Yld.bT rfl (Yld.ret rfl))
  by_cases hnil : (l.length : Int) = 0
  · exact Yld.bnd _ (cF hbig (cT hnil rfl)) (Yld.bT rfl (Yld.ret rfl))
  refine Yld.bnd _ (cF hbig (cF hnil rfl)) ?_
  refine Yld.bF rfl ?_
  have hl : l.length ≤ 12 := by omega
  have hl0 : 0 < l.length := by omega
  refine Yld.bnd _ (New_ok t0 t1 (size := 700) (by omega) (by omega)) ?_
  refine Yld.bnd _ (bF rfl rfl) ?_
  refine Yld.bF rfl ?_
  have hA0 := Ar.new t0 t1 (List.replicate 700 0)
  refine Yld.bind (loop_law l hl at_ 100000 0 _ _ _ _ hA0 (List.length_replicate ..) rfl rfl (fun p hp => by cases hp) (Nat.zero_le _) (by omega)) ?_
  rintro y ⟨T0, T1, ps, rfl, hA, ha, hid⟩
  have hb : (List.replicate 700 (0 : Int)).length = 700 := List.length_replicate ..
  obtain ⟨b, hbe⟩ : ∃ b, b = List.replicate 700 (0 : Int) := ⟨_, rfl⟩
  rw [← hbe] at hA hb
  have hpl : ps.length = l.length := by
    have := congrArg List.length hid
    simpa [idsN] using this
  simp only [Sum.elim_inl]
  -- which one goes
  refine Yld.bnd _ (Number_ok _ _ (by omega) (by omega)) ?_
  obtain ⟨k, hk, hkl⟩ : ∃ k : Nat, at_ % (l.length : Int) = k ∧ k < l.length := by
    have h1 := Int.emod_nonneg at_ (show (l.length : Int) ≠ 0 by omega)
    have h2 := Int.emod_lt_of_pos at_ (show (0 : Int) < l.length by omega)
    exact ⟨(at_ % (l.length : Int)).toNat, by omega, by omega⟩
  simp only [hk, Int.toNat_natCast, Nat.zero_add]
  refine Yld.cT (Int.natCast_nonneg _) ?_
  refine Yld.cT hkl ?_
  refine Yld.bnd _ (Number_ok _ _ (by omega) (by omega)) ?_
  refine Yld.bnd _ (Parts_ok hA (by omega) (by omega)) ?_
  simp only [List.length_map]
  refine Yld.cT (Int.natCast_nonneg _) ?_
  refine Yld.cT (by omega) ?_
  refine Yld.cT (by omega) ?_
  have hkp : k < ps.length := by omega
  have hpk : ps[k] ∈ ps := List.getElem_mem hkp
  have hlen := lenOf_in (l.getD k 0)
  have hnn : ∀ ms : List Int, ∀ m, m ∈ ms.map lenOf → 0 ≤ m ∧ m ≤ 50 := fun ms m hm => by
    obtain ⟨x, _, rfl⟩ := List.mem_map.1 hm
    have := lenOf_in x
    omega
  have htot := tot_bound 50 _ (hnn l)
  have htk := tot_bound 50 _ (hnn (l.take k))
  rw [List.length_map] at htot
  rw [List.length_map, List.length_take] at htk
  have harea : (areas ps)[k]? = some (tot ((l.take k).map lenOf), lenOf (l.getD k 0)) := by
    rw [ha, row_take_drop l k hkl, List.getElem?_append_right (by rw [row_length, List.length_map, List.length_take]; omega), row_length, List.length_map, List.length_take, Nat.min_eq_left (by omega), Nat.sub_self]
    rfl
  have hko : ps[k].off = tot ((l.take k).map lenOf) ∧ ps[k].size = lenOf (l.getD k 0) := by
    rw [areas, List.getElem?_map, List.getElem?_eq_getElem hkp] at harea
    simp only [Option.map_some, Option.some.injEq, Prod.mk.injEq] at harea
    exact harea
  have hkid : ∀ j (hj : j < ps.length), ps[j].id = j := fun j hj => by
    have h1 : (ps.map (·.id))[j]? = some ps[j].id := by rw [List.getElem?_map, List.getElem?_eq_getElem hj]; rfl
    rw [hid, idsN, List.getElem?_map, List.getElem?_range (by omega)] at h1
    simpa using h1.symm
  have hfind : findP ps (k : Int) = some ps[k] := findP_at hkp (hkid k hkp) fun j hj e => by
    rw [hkid j (by omega)] at e
    omega
  obtain ⟨off, ho⟩ : ∃ off : Nat, tot ((l.take k).map lenOf) = off := ⟨(tot ((l.take k).map lenOf)).toNat, by omega⟩
  obtain ⟨size, hsz⟩ : ∃ size : Nat, lenOf (l.getD k 0) = size := ⟨(lenOf (l.getD k 0)).toNat, by omega⟩
  have htle : off + size + tot ((l.drop (k + 1)).map lenOf) = tot (l.map lenOf) := by
    have h := congrArg (fun ms => tot (ms.map lenOf)) (List.take_append_drop k l)
    rw [List.drop_eq_getElem_cons hkl, ← getD_lt hkl 0, List.map_append, List.map_cons, tot_append, tot] at h
    omega
  have htd := tot_bound 50 _ (hnn (l.drop (k + 1)))
  have hA1 := hA.remove (clearB b off size) ps[k].i
  rw [filter_at hA.nodup hkp] at hA1
  have hb1 : (clearB b off size).length = 700 := by
    simp only [clearB, List.length_append, List.length_take, List.length_replicate, List.length_drop]
    omega
  obtain ⟨b1, hb1e⟩ : ∃ b1, b1 = clearB b off size := ⟨_, rfl⟩
  have hrem := Remove_some (N := 100000) hA (by omega) (by omega) hfind (off := off) (size := size) (by rw [hko.1, ho]) (by rw [hko.2, hsz]) (by omega) (by omega)
  rw [← hb1e] at hA1 hb1 hrem
  obtain ⟨ps1, hps1⟩ : ∃ ps1, ps1 = ps.take k ++ ps.drop (k + 1) := ⟨_, rfl⟩
  rw [← hps1] at hA1
  have hp1 : ps1.length = l.length - 1 := by
    rw [hps1, List.length_append, List.length_take, List.length_drop]
    omega
  obtain ⟨T0a, hT0a⟩ : ∃ T0a, T0a = T0.set t0.length (b1, ((ps.map (fun p => some p.i)).filter (fun y => !decide (y = some ps[k].i)), ())) := ⟨_, rfl⟩
  rw [← hT0a] at hA1 hrem
  refine Yld.bnd _ (bnd _ hrem (bF rfl (bnd _ (Parts_ok hA1 (by omega) (by omega)) rfl))) ?_
  refine Yld.cF ?_ ?_
  · rw [List.length_map, hp1, wi64_in (by omega) (by omega)]
    omega
  -- another one in its place
  have ha1 : areas ps1 = row 0 ((l.take k).map lenOf) ++ row (off + size) ((l.drop (k + 1)).map lenOf) := by
    rw [row_take_drop l k hkl] at ha
    have hlr : (row 0 ((l.take k).map lenOf)).length = k := by
      rw [row_length, List.length_map, List.length_take]
      omega
    rw [hps1, areas, List.map_append, List.map_take, List.map_drop]
    show (areas ps).take k ++ (areas ps).drop (k + 1) = _
    rw [ha, List.take_left' hlr, ho, hsz]
    congr 1
    rw [← List.drop_drop, List.drop_left' hlr]
    rfl
  have hid1 : ∀ p, p ∈ ps1 → p.id ≠ 100 ∧ p.id ≠ 200 := fun p hp => by
    have hp : p ∈ ps := by
      rw [hps1] at hp
      rcases List.mem_append.1 hp with hp | hp
      · exact List.mem_of_mem_take hp
      · exact List.mem_of_mem_drop hp
    obtain ⟨j, hj, rfl⟩ := List.mem_iff_getElem.1 hp
    rw [hkid j hj]
    omega
  have hsm1 : Small (areas ps1) := by
    rw [ha1]
    intro x hx
    rcases List.mem_append.1 hx with hx | hx
    · exact row_small _ 0 (fun m hm => (hnn _ m hm).1) (by omega) (by omega) x hx
    · exact row_small _ _ (fun m hm => (hnn _ m hm).1) (by omega) (by omega) x hx
  have hg1 : gapA (areas ps1) b1.length size = ((off : Int), k, true) := by
    have h := gapR_row (n := size) (by omega) ((l.take k).map lenOf) 0 0 (row (off + size) ((l.drop (k + 1)).map lenOf))
    rw [← ha1, Int.zero_add, ho, List.length_map, List.length_take, Nat.zero_add, Nat.min_eq_left (by omega)] at h
    unfold gapA
    rw [h]
    cases hd : (l.drop (k + 1)).map lenOf with
    | nil =>
      simp only [row, gapR, hb1]
      rw [areas_length, hp1]
      have : k = l.length - 1 := by
        have := congrArg List.length hd
        simp only [List.length_map, List.length_drop, List.length_nil] at this
        omega
      rw [this, decide_eq_true (by omega)]
    | cons m r =>
      simp only [row, gapR]
      rw [if_pos (by omega)]
  have hadd1 := Add_go (N := 100000) (id := 100) hA1 (by omega) (by omega) hsm1 (by omega) (size := size) (by omega) (findP_none fun p hp => (hid1 p hp).1)
  rw [hg1] at hadd1
  simp only [if_true] at hadd1
  have hw : wi64 (l.getD k 0 % 50 + 1) = (size : Int) := by rw [← hsz]; exact wi64_in (by omega) (by omega)
  simp only [hw]
  refine Yld.bnd _ hadd1 ?_
  have hA2 := hA1.add (k := k) (id := 100) (off := off) (size := size)
  obtain ⟨T0b, hT0b⟩ : ∃ T0b, T0b = T0a.set t0.length (b1, ((ps1.map (fun p => some p.i)).take k ++ [some T1.length] ++ (ps1.map (fun p => some p.i)).drop k, ())) := ⟨_, rfl⟩
  rw [← hT0b] at hA2 ⊢
  obtain ⟨T1b, hT1b⟩ : ∃ T1b, T1b = T1 ++ [((100 : Int), ((off : Int), ((size : Int), (([] : List (Int × Int)), ()))))] := ⟨_, rfl⟩
  rw [← hT1b] at hA2 ⊢
  have hgk : List.getD (ps.map fun p => (p.id, (p.off, p.size))) k ((0 : Int), ((0 : Int), (0 : Int))) = (ps[k].id, (ps[k].off, ps[k].size)) := by
    refine getD_of ?_ _
    rw [List.getElem?_map, List.getElem?_eq_getElem hkp]
    rfl
  refine Yld.bnd _ (bF rfl rfl) ?_
  refine Yld.cF ?_ ?_
  · simp only [hgk, hko.1, ho]
    exact fun e => e rfl
  obtain ⟨ps2, hps2⟩ : ∃ ps2, ps2 = insP ps1 k ⟨T1.length, 100, off, size, []⟩ := ⟨_, rfl⟩
  rw [← hps2] at hA2
  have hp2 : ps2.length = l.length := by
    rw [hps2, insP]
    simp only [List.length_append, List.length_take, List.length_drop, List.length_cons, List.length_nil]
    omega
  have ha2 : areas ps2 = row 0 (l.map lenOf) := by
    have hlr : (row 0 ((l.take k).map lenOf)).length = k := by
      rw [row_length, List.length_map, List.length_take]
      omega
    rw [row_take_drop l k hkl, hps2, areas, insP, List.map_append, List.map_append, List.map_take, List.map_drop]
    show (areas ps1).take k ++ [(_, _)] ++ (areas ps1).drop k = _
    rw [ha1, List.take_left' hlr, List.drop_left' hlr, ho, hsz]
    simp
  have hid2 : ∀ p, p ∈ ps2 → p.id ≠ 200 := fun p hp => by
    rw [hps2, insP] at hp
    simp only [List.mem_append, List.mem_cons, List.not_mem_nil, or_false] at hp
    rcases hp with (hp | rfl) | hp
    · exact (hid1 p (List.mem_of_mem_take hp)).2
    · simp
    · exact (hid1 p (List.mem_of_mem_drop hp)).2
  have hf2 : (findP ps2 100).isSome = true := by
    unfold findP
    rw [List.find?_isSome]
    exact ⟨⟨T1.length, 100, off, size, []⟩, by rw [hps2, insP]; simp, by simp⟩
  have hsm2 : Small (areas ps2) := by
    rw [ha2]
    exact row_small _ 0 (fun m hm => (hnn _ m hm).1) (by omega) (by omega)
  refine Yld.bnd _ (Add_range hA2 (by omega) (by omega) (.inr hf2)) ?_
  have hw1 : wi64 (701 - tot (l.map lenOf)) = 701 - tot (l.map lenOf) := wi64_in (by omega) (by omega)
  have hw2 : wi64 (700 - tot (l.map lenOf)) = 700 - tot (l.map lenOf) := wi64_in (by omega) (by omega)
  simp only [hw1, hw2]
  have hgA : ∀ n : Int, 1 ≤ n → gapA (areas ps2) b1.length n = (tot (l.map lenOf), l.length, decide (n ≤ 700 - tot (l.map lenOf))) := fun n hn => by
    rw [ha2, gapA_end hn, List.length_map, hb1]
    rfl
  have hadd2 := Add_go (N := 100000) (id := 200) hA2 (by omega) (by omega) hsm2 (by omega) (size := 701 - tot (l.map lenOf)) (by omega) (findP_none fun p hp => hid2 p hp)
  rw [hgA _ (by omega), decide_eq_false (by omega)] at hadd2
  simp only [Bool.false_eq_true, if_false] at hadd2
  refine Yld.bnd _ hadd2 ?_
  have hadd3 := Add_go (N := 100000) (id := 200) hA2 (by omega) (by omega) hsm2 (by omega) (size := 700 - tot (l.map lenOf)) (by omega) (findP_none fun p hp => hid2 p hp)
  rw [hgA _ (by omega), decide_eq_true (by omega)] at hadd3
  simp only [if_true] at hadd3
  refine Yld.bnd _ hadd3 ?_
  refine Yld.bnd _ Is_range ?_
  refine Yld.bT rfl ?_
  refine Yld.bnd _ Is_room ?_
  refine Yld.bT rfl ?_
  refine Yld.bT rfl ?_
  exact Yld.ret (decide_eq_true rfl)

theorem arenaParts_row (x : Val (rowTy ps_lodgelaw13_ArenaParts)) (_ : FitsL ps_lodgelaw13_ArenaParts x) : Yld (F_lodgelaw13_ArenaParts 100000 [] [] x.1 x.2.1) fun y => y.2.1 = true := arenaParts_law x.1 x.2.1

end Go.Proofs.YtnbpgehpjhifgaaDoor.Lx

/-
  The law ArenaFits, in plain words.
-/
namespace Go.Proofs.YtnbpgehpjhifgaaDoor.Lx
open Go Go.Eng Go.Proofs Go.Proofs.LxArena

/-- how much blocks have -/
def tot2 : List (Int × Int) → Int
  | [] => 0
  | x :: r => x.2 + tot2 r

theorem tot2_append : ∀ (l m : List (Int × Int)), tot2 (l ++ m) = tot2 l + tot2 m
  | [], m => by simp [tot2]
  | x :: r, m => by rw [List.cons_append, tot2, tot2, tot2_append r m, Int.add_assoc]
theorem tot2_row : ∀ (ns : List Int) (e : Int), tot2 (row e ns) = tot ns
  | [], _ => rfl
  | n :: r, e => by rw [row, tot2, tot, tot2_row r]

theorem tot2_nonneg : ∀ l : List (Int × Int), (∀ x, x ∈ l → 0 ≤ x.2) → 0 ≤ tot2 l
  | [], _ => Int.le_refl _
  | x :: r, h => by
    have := tot2_nonneg r fun y hy => h y (by simp [hy])
    have := h x (by simp)
    simp only [tot2]
    omega

theorem sumW_eq (l : List (Int × Int)) (h : ∀ x, x ∈ l → 0 ≤ x.2) (hb : tot2 l ≤ 1099511627776) : sumW l = tot2 l := by
  have key : ∀ (l : List (Int × Int)) (s : Int), (∀ x, x ∈ l → 0 ≤ x.2) → 0 ≤ s → s + tot2 l ≤ 1099511627776 → l.foldl (fun s x => Go.RowKit.wrap64 (s + x.2)) s = s + tot2 l := by
    intro l
    induction l with
    | nil => intro s _ _ _; simp [tot2]
    | cons x r ih =>
      intro s hx hs hb
      have h1 := hx x (by simp)
      have h2 := tot2_nonneg r fun y hy => hx y (by simp [hy])
      simp only [tot2] at hb
      rw [List.foldl_cons, show Go.RowKit.wrap64 (s + x.2) = s + x.2 from by unfold Go.RowKit.wrap64; omega, ih _ (fun y hy => hx y (by simp [hy])) (by omega) (by omega), tot2]
      omega
  unfold sumW
  rw [key l 0 h (Int.le_refl _) (by omega)]
  omega

section
variable {T0 : TB0} {T1 : TB1} {a : Nat} {b : List Int} {ps : List Pt}

def usedP (ps : List Pt) (id : Int) : Int := match findP ps id with
  | some p => sumW p.l
  | none => 0

theorem Used_ok {N : Nat} (h : Ar T0 T1 a b ps) (hl : ps.length < 500) (hpl : ∀ p, p ∈ ps → p.l.length ≤ 1000000) (id : Int) : F_arena_Arena_Used N T0 T1 (some a) id = some ((T0, (T1, ())), (usedP ps id, ())) := by
  have hg : List.getD T0 a z0 = (b, (ps.map (fun p => some p.i), ())) := getD_of h.row _
  have hok : handlesOK T1 (ps.map (fun p => some p.i)) = true := by
    unfold handlesOK
    rw [List.length_map, decide_eq_true (by omega), Bool.true_and, List.all_eq_true]
    intro x hx
    obtain ⟨p, hp, rfl⟩ := List.mem_map.1 hx
    have hp1 : List.getD T1 p.i z1 = p.row := getD_of (h.part p hp) _
    simp only [hp1, Pt.row, Bool.and_eq_true, decide_eq_true_eq]
    exact ⟨h.len1 hp, hpl p hp⟩
  have hu : usedOf T1 (ps.map (fun p => some p.i)) id = usedP ps id := by
    have hrow : rowsAt T1 (ps.map (fun p => some p.i)) = ps.map Pt.row := by
      unfold rowsAt
      rw [List.map_map]
      apply List.map_congr_left
      intro p hp
      exact getD_of (h.part p hp) _
    unfold usedOf usedP findP
    rw [hrow, List.find?_map]
    have : ((fun r : R1 => decide (r.1 = id)) ∘ Pt.row) = fun p : Pt => decide (p.id = id) := rfl
    rw [this]
    cases ps.find? (fun p => decide (p.id = id)) <;> rfl
  unfold F_arena_Arena_Used
  simp only [hg, decide_eq_true h.len, Bool.true_and, hok, hu]

end

/-- the one part -/
def one3 (i : Nat) (size : Int) (l : List (Int × Int)) : Pt := ⟨i, 3, 0, size, l⟩

theorem find_one (i : Nat) (size : Int) (l : List (Int × Int)) : findP [one3 i size l] 3 = some (one3 i size l) := by
  unfold findP one3
  rw [List.find?_cons]
  simp

theorem row_rep (n : Int) (k : Nat) : row 0 (List.replicate (k + 1) n) = row 0 (List.replicate k n) ++ [((k : Int) * n, n)] := by
  rw [List.replicate_succ', row_append]
  congr 1
  have : ∀ k : Nat, tot (List.replicate k n) = (k : Int) * n := by
    intro k
    induction k with
    | zero => simp [tot]
    | succ k ih => rw [List.replicate_succ, tot, ih, Int.natCast_add, Int.add_mul]; simp; omega
  rw [this, Int.zero_add]
  rfl

theorem tot_rep (n : Int) : ∀ k : Nat, tot (List.replicate k n) = (k : Int) * n
  | 0 => by simp [tot]
  | k + 1 => by rw [List.replicate_succ, tot, tot_rep n k, Int.natCast_add, Int.add_mul]; simp; omega

/-- the loop: as many as there is room for -/
theorem loop_fits {a : Nat} {size n : Nat} (hs : size ≤ 300) (hn : 1 ≤ n) (at_ : Int) : ∀ (m k : Nat) (T0 : TB0) (T1 : TB1) (b : List Int) (i : Nat), Ar T0 T1 a b [one3 i size (row 0 (List.replicate k n))] → k * n ≤ size → size < m + k →
    Yld (g_lodgelaw13_ArenaFits_0 100000 m T0 T1 size n at_ true (some a) (k : Int)) fun y => ∃ (k' : Nat) (T0' : TB0) (T1' : TB1), y = .inr ((T0', (T1', ())), ((size : Int), ((n : Int), (at_, (true, (some a, ((k' : Int), ()))))))) ∧
      Ar T0' T1' a b [one3 i size (row 0 (List.replicate k' n))] ∧ k' * n ≤ size ∧ size < k' * n + n
  | 0, k, _, _, _, _, _, h1, h2 => by
    have : k * 1 ≤ k * n := Nat.mul_le_mul_left _ hn
    omega
  | m + 1, k, T0, T1, b, i, h, h1, h2 => by
    have hk1 : k * 1 ≤ k * n := Nat.mul_le_mul_left _ hn
    have htot : tot (List.replicate k (n : Int)) = ((k * n : Nat) : Int) := by rw [tot_rep]; simp
    have hsm : Small (row 0 (List.replicate k (n : Int))) := row_small _ 0 (fun x hx => by rw [List.eq_of_mem_replicate hx]; omega) (Int.le_refl _) (by rw [htot]; omega)
    have hlen : (row 0 (List.replicate k (n : Int))).length = k := by rw [row_length, List.length_replicate]
    have hg : gapA (row 0 (List.replicate k (n : Int))) (size : Int) (n : Int) = (((k * n : Nat) : Int), k, decide ((n : Int) ≤ size - ((k * n : Nat) : Int))) := by
      rw [gapA_end (by omega), htot, List.length_replicate]
    have ht := Take_go (N := 100000) h (by omega) (by simp) (find_one i size _) hsm (by rw [show (one3 i (size : Int) (row 0 (List.replicate k (n : Int)))).l = row 0 (List.replicate k (n : Int)) from rfl, hlen]; omega) (show (0 : Int) ≤ (size : Int) by omega) (show (size : Int) ≤ 1099511627776 by omega) (n := n) (by omega)
    simp only [one3, hg] at ht
    rw [g_lodgelaw13_ArenaFits_0]
    by_cases hf : (n : Int) ≤ size - ((k * n : Nat) : Int)
    · rw [decide_eq_true hf, if_pos rfl] at ht
      refine Yld.bnd _ ht ?_
      refine Yld.bF rfl ?_
      rw [show wi64 ((k : Int) * (n : Int)) = ((k * n : Nat) : Int) from wi64_mul (by omega), wi64_succ (by omega)]
      refine Yld.cF (fun e => e rfl) ?_
      have hA := h.setL (p := one3 i size (row 0 (List.replicate k n))) (List.mem_singleton.2 rfl) (row 0 (List.replicate (k + 1) (n : Int)))
      have hps : setL [one3 i size (row 0 (List.replicate k (n : Int)))] i (row 0 (List.replicate (k + 1) (n : Int))) = [one3 i size (row 0 (List.replicate (k + 1) (n : Int)))] := by
        simp [setL, one3]
      have hl : (row 0 (List.replicate k (n : Int))).take k ++ [(((k * n : Nat) : Int), (n : Int))] ++ (row 0 (List.replicate k (n : Int))).drop k = row 0 (List.replicate (k + 1) (n : Int)) := by
        rw [List.take_of_length_le (by omega), List.drop_eq_nil_of_le (by omega), List.append_nil, row_rep]
        simp
      rw [hl]
      simp only [one3] at hA hps
      rw [hps] at hA
      have hkn : (k + 1) * n = k * n + n := Nat.succ_mul k n
      exact loop_fits hs hn at_ m (k + 1) _ _ b i hA (by omega) (by omega)
    · rw [decide_eq_false hf] at ht
      simp only [Bool.false_eq_true, if_false] at ht
      refine Yld.bnd _ ht ?_
      refine Yld.bT rfl ?_
      refine Yld.bnd _ Is_room ?_
      refine Yld.bF rfl ?_
      exact .ret ⟨k, T0, T1, rfl, h, h1, by omega⟩


theorem row_at (n : Int) : ∀ (k j : Nat) (e : Int) (hj : j < (row e (List.replicate k n)).length), (row e (List.replicate k n))[j] = (e + j * n, n)
  | 0, j, e, hj => by cases hj
  | k + 1, 0, e, hj => by simp [List.replicate_succ, row]
  | k + 1, j + 1, e, hj => by
    have hj' : j < (row (e + n) (List.replicate k n)).length := by
      simpa [List.replicate_succ, row] using hj
    have := row_at n k j (e + n) hj'
    simp only [List.replicate_succ, row, List.getElem_cons_succ]
    rw [this]
    congr 1
    rw [Int.natCast_add, Int.add_mul]
    simp
    omega

theorem row_split (n : Int) {k j : Nat} (hj : j < k) : row 0 (List.replicate k n) = row 0 (List.replicate j n) ++ ((j * n : Int), n) :: row ((j * n : Int) + n) (List.replicate (k - 1 - j) n) := by
  have h : List.replicate k n = List.replicate j n ++ n :: List.replicate (k - 1 - j) n := by
    rw [← List.replicate_succ, List.replicate_append_replicate]
    congr 1
    omega
  rw [h, row_append, row, Int.zero_add, tot_rep]

theorem arenaFits_law (size_0 n_1 at_2 : Int) : Yld (F_lodgelaw13_ArenaFits 100000 [] [] size_0 n_1 at_2) fun y => y.2.1 = true := by
  obtain ⟨t0, t1, hf⟩ := first_ok
  unfold F_lodgelaw13_ArenaFits
  refine Yld.bnd _ hf ?_
  refine Yld.bF rfl ?_
  refine Yld.bnd _ (Number_ok _ _ (by omega) (by omega)) ?_
  refine Yld.bnd _ (Number_ok _ _ (by omega) (by omega)) ?_
  obtain ⟨size, hsz⟩ : ∃ size : Nat, size_0 % 300 + 1 = size := ⟨(size_0 % 300 + 1).toNat, by omega⟩
  obtain ⟨n, hn⟩ : ∃ n : Nat, n_1 % 20 + 1 = n := ⟨(n_1 % 20 + 1).toNat, by omega⟩
  have hw1 : wi64 (size_0 % 300 + 1) = (size : Int) := by rw [hsz]; exact wi64_in (by omega) (by omega)
  have hw2 : wi64 (n_1 % 20 + 1) = (n : Int) := by rw [hn]; exact wi64_in (by omega) (by omega)
  have hw3 : wi64 ((size : Int) + 5) = ((size + 5 : Nat) : Int) := by rw [wi64_in (by omega) (by omega)]; omega
  simp only [hw1, hw2, hw3]
  have hs1 : 1 ≤ size ∧ size ≤ 300 := by omega
  have hn1 : 1 ≤ n ∧ n ≤ 20 := by omega
  refine Yld.bnd _ (New_ok t0 t1 (size := size + 5) (by omega) (by omega)) ?_
  refine Yld.bF rfl ?_
  refine Yld.bF rfl ?_
  have hA0 := Ar.new t0 t1 (List.replicate (size + 5) 0)
  obtain ⟨b, hb⟩ : ∃ b, b = List.replicate (size + 5) (0 : Int) := ⟨_, rfl⟩
  have hbl : b.length = size + 5 := by rw [hb, List.length_replicate]
  rw [← hb] at hA0 ⊢
  have hadd := Add_go (N := 100000) (id := 3) hA0 (by omega) (by simp) (fun x hx => by cases hx) (by omega) (size := (size : Int)) (by omega) rfl
  have hg0 : gapA (areas []) (b.length : Int) (size : Int) = (0, 0, true) := by
    simp only [areas, List.map_nil, gapA, gapR, List.length_nil, hbl]
    rw [decide_eq_true (by omega)]
  rw [hg0] at hadd
  simp only [if_true] at hadd
  refine Yld.bnd _ hadd ?_
  refine Yld.bF rfl ?_
  have hA1 := hA0.add (k := 0) (id := 3) (off := 0) (size := (size : Int))
  obtain ⟨a, ha⟩ : ∃ a, a = List.length t0 := ⟨_, rfl⟩
  rw [← ha] at hA1 ⊢
  refine Yld.bind (loop_fits hs1.2 hn1.1 at_2 100000 0 _ _ b t1.length hA1 (by omega) (by omega)) ?_
  rintro y ⟨k, T0, T1, rfl, hA, hk1, hk2⟩
  simp only [Sum.elim_inr]
  have hkle : k ≤ size := Nat.le_trans (Nat.le_mul_of_pos_right k hn1.1) hk1
  refine Yld.cT (by omega) ?_
  have hdiv : wi64 (Int.tdiv (size : Int) (n : Int)) = (k : Int) := by
    have h1 : Int.tdiv (size : Int) (n : Int) = ((size / n : Nat) : Int) := rfl
    have h2 : size / n = k := by
      rw [Nat.div_eq_iff (by omega)]
      omega
    rw [h1, h2]
    exact wi64_in (by omega) (by omega)
  have hmul : wi64 ((k : Int) * (n : Int)) = ((k * n : Nat) : Int) := wi64_mul (by omega)
  simp only [hdiv, hmul]
  refine Yld.cF (fun e => e rfl) ?_
  have hlen : (row 0 (List.replicate k (n : Int))).length = k := by rw [row_length, List.length_replicate]
  have htot2 : tot2 (row 0 (List.replicate k (n : Int))) = ((k * n : Nat) : Int) := by rw [tot2_row, tot_rep]; simp
  have hsmk : ∀ j : Nat, j ≤ k → Small (row 0 (List.replicate j (n : Int))) := fun j hj => row_small _ 0 (fun x hx => by rw [List.eq_of_mem_replicate hx]; omega) (Int.le_refl _) (by
    rw [tot_rep]
    have : j * n ≤ k * n := Nat.mul_le_mul_right _ hj
    have : ((j * n : Nat) : Int) = (j : Int) * n := by simp
    omega)
  have hsm := hsmk k (Nat.le_refl _)
  have hused : usedP [one3 t1.length (size : Int) (row 0 (List.replicate k (n : Int)))] 3 = ((k * n : Nat) : Int) := by
    unfold usedP
    rw [find_one]
    show sumW (row 0 (List.replicate k (n : Int))) = _
    rw [sumW_eq _ (fun x hx => (hsm x hx).2.1) (by rw [htot2]; omega), htot2]
  have hu := Used_ok (N := 100000) hA (by simp) (fun p hp => by rw [List.mem_singleton.1 hp]; show (row 0 _).length ≤ _; rw [hlen]; omega) 3
  rw [hused] at hu
  refine Yld.bnd _ hu ?_
  refine Yld.cF (fun e => e rfl) ?_
  by_cases hk0 : k = 0
  · subst hk0
    refine Yld.cT rfl ?_
    exact Yld.ret rfl
  refine Yld.cF (by omega) ?_
  refine Yld.bnd _ (Number_ok _ _ (by omega) (by omega)) ?_
  obtain ⟨j, hj, hjk⟩ : ∃ j : Nat, at_2 % (k : Int) = j ∧ j < k := by
    have h1 := Int.emod_nonneg at_2 (show (k : Int) ≠ 0 by omega)
    have h2 := Int.emod_lt_of_pos at_2 (show (0 : Int) < k by omega)
    exact ⟨(at_2 % (k : Int)).toNat, by omega, by omega⟩
  have hjn : j * n + n ≤ k * n := by
    have := Nat.mul_le_mul_right n (show j + 1 ≤ k by omega)
    rw [Nat.succ_mul] at this
    exact this
  simp only [hj, show wi64 ((j : Int) * (n : Int)) = ((j * n : Nat) : Int) from wi64_mul (by omega)]
  have hjl : j < (row 0 (List.replicate k (n : Int))).length := by omega
  have hdrop := Drop_go (N := 100000) hA (by omega) (by simp) (find_one t1.length (size : Int) (row 0 (List.replicate k (n : Int)))) (by show (row 0 _).length < 500; omega) (po := 0) (oo := j * n) (mm := n) (j := j) rfl hjl (by
      show (row 0 (List.replicate k (n : Int)))[j] = _
      rw [row_at]
      simp) (fun i hi => by
      show ((row 0 (List.replicate k (n : Int)))[i]'(by omega)).1 ≠ _
      rw [row_at]
      intro e
      have e : (0 : Int) + (i : Int) * (n : Int) = ((j * n : Nat) : Int) := e
      have : i * n < j * n := Nat.mul_lt_mul_of_pos_right hi hn1.1
      have : ((i * n : Nat) : Int) = (i : Int) * n := by simp
      omega) (by omega) (by omega)
  obtain ⟨L, hL⟩ : ∃ L, L = (row 0 (List.replicate k (n : Int))).take j ++ (row 0 (List.replicate k (n : Int))).drop (j + 1) := ⟨_, rfl⟩
  rw [show List.take j (one3 t1.length (size : Int) (row 0 (List.replicate k (n : Int)))).l ++ List.drop (j + 1) (one3 t1.length (size : Int) (row 0 (List.replicate k (n : Int)))).l = L from hL.symm] at hdrop
  refine Yld.bnd _ hdrop ?_
  have hLe : L = row 0 (List.replicate j (n : Int)) ++ row (((j * n : Nat) : Int) + n) (List.replicate (k - 1 - j) (n : Int)) := by
    have hlj : (row 0 (List.replicate j (n : Int))).length = j := by rw [row_length, List.length_replicate]
    rw [hL, row_split (n : Int) hjk, List.take_left' hlj]
    congr 1
    rw [← List.drop_drop, List.drop_left' hlj]
    simp
  have hA2 := (hA.setL (p := one3 t1.length (size : Int) (row 0 (List.replicate k (n : Int)))) (List.mem_singleton.2 rfl) L).setB (clearB b (0 + j * n) n)
  have hps : setL [one3 t1.length (size : Int) (row 0 (List.replicate k (n : Int)))] (one3 t1.length (size : Int) (row 0 (List.replicate k (n : Int)))).i L = [one3 t1.length size L] := by simp [setL, one3]
  rw [hps] at hA2
  have hLl : L.length = k - 1 := by
    rw [hLe, List.length_append, row_length, row_length, List.length_replicate, List.length_replicate]
    omega
  have htj : tot (List.replicate j (n : Int)) = ((j * n : Nat) : Int) := by rw [tot_rep]; simp
  have hLsm : Small L := by
    rw [hLe]
    intro x hx
    rcases List.mem_append.1 hx with hx | hx
    · exact hsmk j (by omega) x hx
    · refine row_small _ _ (fun x hx => by rw [List.eq_of_mem_replicate hx]; omega) (by omega) ?_ x hx
      rw [tot_rep]
      have h3 : (k - 1 - j) * n ≤ k * n := Nat.mul_le_mul_right _ (by omega)
      have h4 : (((k - 1 - j) * n : Nat) : Int) = ((k - 1 - j : Nat) : Int) * n := by simp
      omega
  have hgL : (gapA L (size : Int) (n : Int)).1 = ((j * n : Nat) : Int) ∧ (gapA L (size : Int) (n : Int)).2.2 = true := by
    have h := gapR_row (n := (n : Int)) (by omega) (List.replicate j (n : Int)) 0 0 (row (((j * n : Nat) : Int) + n) (List.replicate (k - 1 - j) (n : Int)))
    rw [← hLe, Int.zero_add, htj, List.length_replicate, Nat.zero_add] at h
    unfold gapA
    rw [h]
    cases k - 1 - j with
    | zero =>
      simp only [List.replicate_zero, row, gapR]
      exact ⟨trivial, decide_eq_true (by omega)⟩
    | succ q =>
      simp only [List.replicate_succ, row, gapR]
      rw [if_pos (by omega)]
      exact ⟨rfl, rfl⟩
  have htake := Take_go (N := 100000) hA2 (by omega) (by simp) (find_one t1.length (size : Int) L) hLsm (by show L.length < 500; omega) (show (0 : Int) ≤ (size : Int) by omega) (show (size : Int) ≤ 1099511627776 by omega) (n := (n : Int)) (by omega)
  simp only [one3, hgL.2, hgL.1, if_true] at htake
  refine Yld.bnd _ htake ?_
  refine Yld.bT rfl ?_
  refine Yld.bT rfl ?_
  refine Yld.bT rfl ?_
  exact Yld.ret (decide_eq_true rfl)

theorem arenaFits_row (x : Val (rowTy ps_lodgelaw13_ArenaFits)) (_ : FitsL ps_lodgelaw13_ArenaFits x) : Yld (F_lodgelaw13_ArenaFits 100000 [] [] x.1 x.2.1 x.2.2.1) fun y => y.2.1 = true := arenaFits_law x.1 x.2.1 x.2.2.1

end Go.Proofs.YtnbpgehpjhifgaaDoor.Lx
