/-
  The law ArenaParts, in plain words.
-/
import Derived.Test.YtnbpgehpjhifgaaDoorLxArenaP
namespace Go.Proofs.YtnbpgehpjhifgaaDoor.Lx
open Go Go.Eng Go.Proofs

theorem first_ok : ∃ t0 t1, F_lodgelaw13_first 100000 [] [] = some ((t0, (t1, ())), (true, ())) := by
  have h : (F_lodgelaw13_first 100000 [] []).map (fun x => x.2.1) = some true := by kernel_rfl
  obtain ⟨⟨⟨t0, t1, ⟨⟩⟩, b, ⟨⟩⟩, h1, h2⟩ := Option.map_eq_some_iff.1 h
  exact ⟨t0, t1, by rw [h1, show b = true from h2]⟩

theorem Number_ok (N : Nat) (n : Int) {b : Int} (h : 0 < b) (h' : b ≤ 1099511627776) : F_lodgeworld_Number N n b = some ((), (n % b, ())) := by
  unfold F_lodgeworld_Number
  have := tmod_lt (n := n) h
  refine cT (by omega) ?_
  refine cT (by omega) ?_
  rw [wi64_in (by omega) (by omega), tmod_below h]

theorem Is_room : F_lodgesee_Is 100000 (.s ErrRoom) 106 = some ((), (true, ())) := by kernel_rfl
theorem Is_range : F_lodgesee_Is 100000 (.s ErrRange) 102 = some ((), (true, ())) := by kernel_rfl

/-- a part's length, of a number -/
def lenOf (n : Int) : Int := n % 50 + 1
theorem lenOf_in (n : Int) : 1 ≤ lenOf n ∧ lenOf n ≤ 50 := by unfold lenOf; omega

theorem gapA_end {ns : List Int} {size : Nat} {n : Int} (hn : 1 ≤ n) : gapA (row 0 ns) size n = (tot ns, ns.length, decide (n ≤ size - tot ns)) := by
  have := gapR_row hn ns 0 0 []
  rw [List.append_nil, gapR] at this
  unfold gapA
  rw [this]
  simp only [Int.zero_add, row_length]

theorem findP_none {ps : List Pt} {id : Int} (h : ∀ p, p ∈ ps → p.id ≠ id) : findP ps id = none := by
  unfold findP
  rw [List.find?_eq_none]
  intro p hp
  simpa using h p hp

/-- numbers from one on -/
def idsN (m : Nat) : List Int := (List.range m).map fun i : Nat => (i : Int)
theorem idsN_succ (m : Nat) : idsN (m + 1) = idsN m ++ [(m : Int)] := by simp [idsN, List.range_succ]

theorem ids_ne {ps : List Pt} {m : Nat} (h : ps.map (·.id) = idsN m) {id : Int} (hid : (m : Int) ≤ id) : findP ps id = none := findP_none fun p hp e => by
  have : p.id ∈ idsN m := by rw [← h]; exact List.mem_map.2 ⟨p, hp, rfl⟩
  simp only [idsN, List.mem_map, List.mem_range] at this
  obtain ⟨i, hi, e'⟩ := this
  omega

theorem insP_end {ps : List Pt} {k : Nat} (hk : k = ps.length) (p : Pt) : insP ps k p = ps ++ [p] := by
  subst hk
  simp [insP]

theorem loop_law (l : List Int) (hl : l.length ≤ 12) (at_ : Int) {a : Nat} : ∀ (n k : Nat) (T0 : TB0) (T1 : TB1) (b : List Int) (ps : List Pt), Ar T0 T1 a b ps → b.length = 700 → areas ps = row 0 ((l.take k).map lenOf) → ps.map (·.id) = idsN k → (∀ p, p ∈ ps → p.l = []) → k ≤ l.length → l.length < n + k →
    Yld (g_lodgelaw13_ArenaParts_0 100000 n T0 T1 l at_ (some a) (tot ((l.take k).map lenOf)) (k : Int)) fun y => ∃ T0' T1' ps', y = .inl ((T0', (T1', ())), (l, (at_, (some a, (tot (l.map lenOf), ()))))) ∧
      Ar T0' T1' a b ps' ∧ areas ps' = row 0 (l.map lenOf) ∧ ps'.map (·.id) = idsN l.length
  | 0, k, _, _, _, _, _, _, _, _, _, _, h' => by omega
  | n + 1, k, T0, T1, b, ps, h, hb, ha, hid, hps, hk, h' => by
    rw [g_lodgelaw13_ArenaParts_0]
    have hpl : ps.length = k := by
      have := congrArg List.length hid
      simpa [idsN] using this
    by_cases hi : k < l.length
    · have hin := lenOf_in (l.getD k 0)
      have hns : ∀ m, m ∈ (l.take k).map lenOf → 0 ≤ m ∧ m ≤ 50 := fun m hm => by
        obtain ⟨x, _, rfl⟩ := List.mem_map.1 hm
        have := lenOf_in x
        omega
      have htot := tot_bound 50 _ hns
      rw [List.length_map, List.length_take] at htot
      have hlk : (l.take (k + 1)).map lenOf = (l.take k).map lenOf ++ [lenOf (l.getD k 0)] := by
        rw [List.take_succ_eq_append_getElem hi, getD_lt hi, List.map_append]; rfl
      have hsm : Small (areas ps) := by
        rw [ha]
        exact row_small _ 0 (fun m hm => (hns m hm).1) (by omega) (by omega)
      have hg : gapA (areas ps) b.length (lenOf (l.getD k 0)) = (tot ((l.take k).map lenOf), k, true) := by
        rw [ha, gapA_end hin.1, List.length_map, List.length_take, Nat.min_eq_left (by omega), hb, decide_eq_true (by omega)]
      have hadd := Add_go (N := 100000) (id := k) h (by omega) (by omega) hsm (by omega) (size := lenOf (l.getD k 0)) (by omega) (ids_ne hid (Int.le_refl _))
      rw [hg] at hadd
      simp only [if_true] at hadd
      have hA := h.add (k := k) (id := k) (off := tot ((l.take k).map lenOf)) (size := lenOf (l.getD k 0))
      rw [insP_end hpl.symm] at hA
      refine Yld.cT (Int.ofNat_lt.2 hi) ?_
      refine Yld.cT (Int.natCast_nonneg _) ?_
      rw [Int.toNat_natCast]
      refine Yld.cT hi ?_
      refine Yld.bnd _ (Number_ok _ _ (by omega) (by omega)) ?_
      rw [show wi64 (l.getD k 0 % 50 + 1) = lenOf (l.getD k 0) from wi64_in (by omega) (by omega)]
      refine Yld.bnd _ hadd ?_
      refine Yld.bF rfl ?_
      refine Yld.cF (fun e => e rfl) ?_
      refine Yld.cF (fun e => e rfl) ?_
      refine Yld.cF (fun e => e rfl) ?_
      rw [wi64_succ (by omega), wi64_in (n := tot ((l.take k).map lenOf) + lenOf (l.getD k 0)) (by omega) (by omega)]
      rw [show tot ((l.take k).map lenOf) + lenOf (l.getD k 0) = tot ((l.take (k + 1)).map lenOf) from by rw [hlk, tot_append]; simp [tot]]
      refine loop_law l hl at_ n (k + 1) _ _ b _ hA hb ?_ ?_ ?_ hi (by omega)
      · rw [areas, List.map_append]
        show areas ps ++ _ = _
        rw [ha, hlk, row_append]
        simp [row]
      · rw [List.map_append, hid, idsN_succ]; rfl
      · intro p hp
        rcases List.mem_append.1 hp with hp | hp
        · exact hps p hp
        · rw [List.mem_singleton] at hp
          subst hp
          rfl
    · have hkl : k = l.length := by omega
      subst hkl
      refine Yld.cF (by omega) ?_
      rw [List.take_of_length_le (Nat.le_refl _)] at ha ⊢
      exact .ret ⟨T0, T1, ps, rfl, h, ha, hid⟩


theorem row_take_drop (l : List Int) (k : Nat) (hk : k < l.length) : row 0 (l.map lenOf) = row 0 ((l.take k).map lenOf) ++ (tot ((l.take k).map lenOf), lenOf (l.getD k 0)) :: row (tot ((l.take k).map lenOf) + lenOf (l.getD k 0)) ((l.drop (k + 1)).map lenOf) := by
  have h : l.map lenOf = (l.take k).map lenOf ++ lenOf (l.getD k 0) :: (l.drop (k + 1)).map lenOf := by
    rw [getD_lt hk, ← List.map_cons, ← List.drop_eq_getElem_cons hk, ← List.map_append, List.take_append_drop]
  rw [h, row_append, row, Int.zero_add]

theorem areas_length (ps : List Pt) : (areas ps).length = ps.length := by rw [areas, List.length_map]

theorem findP_at {ps : List Pt} {k : Nat} (hk : k < ps.length) {id : Int} (h : ps[k].id = id) (hne : ∀ j (hj : j < k), (ps[j]'(Nat.lt_trans hj hk)).id ≠ id) : findP ps id = some ps[k] := by
  unfold findP
  rw [List.find?_eq_some_iff_getElem]
  refine ⟨by simpa using h, k, hk, rfl, fun j hj => ?_⟩
  simpa using hne j hj

theorem filter_at {ps : List Pt} (hn : (ps.map (·.i)).Nodup) {k : Nat} (hk : k < ps.length) : (ps.filter fun p => !decide (p.i = ps[k].i)) = ps.take k ++ ps.drop (k + 1) := by
  have e : ps = ps.take k ++ ps[k] :: ps.drop (k + 1) := by rw [← List.drop_eq_getElem_cons hk, List.take_append_drop]
  have hn2 := hn
  rw [e, List.map_append, List.map_cons, List.nodup_append, List.nodup_cons] at hn2
  obtain ⟨_, ⟨h2, _⟩, h3⟩ := hn2
  obtain ⟨x, hx⟩ : ∃ x, x = ps[k] := ⟨_, rfl⟩
  rw [← hx] at h2 h3 e ⊢
  have hl : (ps.take k).filter (fun p => !decide (p.i = x.i)) = ps.take k := List.filter_eq_self.2 fun p hp => by
    have := h3 p.i (List.mem_map.2 ⟨p, hp, rfl⟩) x.i (by simp)
    simpa using this
  have hr : (ps.drop (k + 1)).filter (fun p => !decide (p.i = x.i)) = ps.drop (k + 1) := List.filter_eq_self.2 fun p hp => by
    have : p.i ≠ x.i := fun e => h2 (e ▸ List.mem_map.2 ⟨p, hp, rfl⟩)
    simpa using this
  calc (ps.filter fun p => !decide (p.i = x.i)) = ((ps.take k ++ x :: ps.drop (k + 1)).filter fun p => !decide (p.i = x.i)) := by rw [← e]
    _ = ps.take k ++ ps.drop (k + 1) := by rw [List.filter_append, hl, List.filter_cons, if_neg (by simp), hr]

/-- THE LAW -/
theorem arenaParts_law (l : List Int) (at_ : Int) : Yld (F_lodgelaw13_ArenaParts 100000 [] [] l at_) fun y => y.2.1 = true := by
  obtain ⟨t0, t1, hf⟩ := first_ok
  unfold F_lodgelaw13_ArenaParts
  refine Yld.bnd _ hf ?_
  refine Yld.bF rfl ?_
  by_cases hbig : (12 : Int) < (l.length : Int)
  · exact Yld.bnd _ (cT hbig rfl) (Yld.bT rfl (Yld.ret rfl))
  by_cases hnil : (l.length : Int) = 0
  · exact Yld.bnd _ (cF hbig (cT hnil rfl)) (Yld.bT rfl (Yld.ret rfl))
  refine Yld.bnd _ (cF hbig (cF hnil rfl)) ?_
  refine Yld.bF rfl ?_
  have hl : l.length ≤ 12 := by omega
  have hl0 : 0 < l.length := by omega
  refine Yld.bnd _ (New_ok t0 t1 (size := 700) (by omega) (by omega)) ?_
  refine Yld.bnd _ (bF rfl rfl) ?_
  refine Yld.bF rfl ?_
  have hA0 := Ar.new t0 t1 (List.replicate 700 0)
  refine Yld.bind (loop_law l hl at_ 100000 0 _ _ _ _ hA0 (List.length_replicate ..) rfl rfl (fun p hp => by cases hp) (Nat.zero_le _) (by omega)) ?_
  rintro y ⟨T0, T1, ps, rfl, hA, ha, hid⟩
  have hb : (List.replicate 700 (0 : Int)).length = 700 := List.length_replicate ..
  obtain ⟨b, hbe⟩ : ∃ b, b = List.replicate 700 (0 : Int) := ⟨_, rfl⟩
  rw [← hbe] at hA hb
  have hpl : ps.length = l.length := by
    have := congrArg List.length hid
    simpa [idsN] using this
  simp only [Sum.elim_inl]
  -- which one goes
  refine Yld.bnd _ (Number_ok _ _ (by omega) (by omega)) ?_
  obtain ⟨k, hk, hkl⟩ : ∃ k : Nat, at_ % (l.length : Int) = k ∧ k < l.length := by
    have h1 := Int.emod_nonneg at_ (show (l.length : Int) ≠ 0 by omega)
    have h2 := Int.emod_lt_of_pos at_ (show (0 : Int) < l.length by omega)
    exact ⟨(at_ % (l.length : Int)).toNat, by omega, by omega⟩
  simp only [hk, Int.toNat_natCast, Nat.zero_add]
  refine Yld.cT (Int.natCast_nonneg _) ?_
  refine Yld.cT hkl ?_
  refine Yld.bnd _ (Number_ok _ _ (by omega) (by omega)) ?_
  refine Yld.bnd _ (Parts_ok hA (by omega) (by omega)) ?_
  simp only [List.length_map]
  refine Yld.cT (Int.natCast_nonneg _) ?_
  refine Yld.cT (by omega) ?_
  refine Yld.cT (by omega) ?_
  have hkp : k < ps.length := by omega
  have hpk : ps[k] ∈ ps := List.getElem_mem hkp
  have hlen := lenOf_in (l.getD k 0)
  have hnn : ∀ ms : List Int, ∀ m, m ∈ ms.map lenOf → 0 ≤ m ∧ m ≤ 50 := fun ms m hm => by
    obtain ⟨x, _, rfl⟩ := List.mem_map.1 hm
    have := lenOf_in x
    omega
  have htot := tot_bound 50 _ (hnn l)
  have htk := tot_bound 50 _ (hnn (l.take k))
  rw [List.length_map] at htot
  rw [List.length_map, List.length_take] at htk
  have harea : (areas ps)[k]? = some (tot ((l.take k).map lenOf), lenOf (l.getD k 0)) := by
    rw [ha, row_take_drop l k hkl, List.getElem?_append_right (by rw [row_length, List.length_map, List.length_take]; omega), row_length, List.length_map, List.length_take, Nat.min_eq_left (by omega), Nat.sub_self]
    rfl
  have hko : ps[k].off = tot ((l.take k).map lenOf) ∧ ps[k].size = lenOf (l.getD k 0) := by
    rw [areas, List.getElem?_map, List.getElem?_eq_getElem hkp] at harea
    simp only [Option.map_some, Option.some.injEq, Prod.mk.injEq] at harea
    exact harea
  have hkid : ∀ j (hj : j < ps.length), ps[j].id = j := fun j hj => by
    have h1 : (ps.map (·.id))[j]? = some ps[j].id := by rw [List.getElem?_map, List.getElem?_eq_getElem hj]; rfl
    rw [hid, idsN, List.getElem?_map, List.getElem?_range (by omega)] at h1
    simpa using h1.symm
  have hfind : findP ps (k : Int) = some ps[k] := findP_at hkp (hkid k hkp) fun j hj e => by
    rw [hkid j (by omega)] at e
    omega
  obtain ⟨off, ho⟩ : ∃ off : Nat, tot ((l.take k).map lenOf) = off := ⟨(tot ((l.take k).map lenOf)).toNat, by omega⟩
  obtain ⟨size, hsz⟩ : ∃ size : Nat, lenOf (l.getD k 0) = size := ⟨(lenOf (l.getD k 0)).toNat, by omega⟩
  have htle : off + size + tot ((l.drop (k + 1)).map lenOf) = tot (l.map lenOf) := by
    have h := congrArg (fun ms => tot (ms.map lenOf)) (List.take_append_drop k l)
    rw [List.drop_eq_getElem_cons hkl, ← getD_lt hkl 0, List.map_append, List.map_cons, tot_append, tot] at h
    omega
  have htd := tot_bound 50 _ (hnn (l.drop (k + 1)))
  have hA1 := hA.remove (clearB b off size) ps[k].i
  rw [filter_at hA.nodup hkp] at hA1
  have hb1 : (clearB b off size).length = 700 := by
    simp only [clearB, List.length_append, List.length_take, List.length_replicate, List.length_drop]
    omega
  obtain ⟨b1, hb1e⟩ : ∃ b1, b1 = clearB b off size := ⟨_, rfl⟩
  have hrem := Remove_some (N := 100000) hA (by omega) (by omega) hfind (off := off) (size := size) (by rw [hko.1, ho]) (by rw [hko.2, hsz]) (by omega) (by omega)
  rw [← hb1e] at hA1 hb1 hrem
  obtain ⟨ps1, hps1⟩ : ∃ ps1, ps1 = ps.take k ++ ps.drop (k + 1) := ⟨_, rfl⟩
  rw [← hps1] at hA1
  have hp1 : ps1.length = l.length - 1 := by
    rw [hps1, List.length_append, List.length_take, List.length_drop]
    omega
  obtain ⟨T0a, hT0a⟩ : ∃ T0a, T0a = T0.set t0.length (b1, ((ps.map (fun p => some p.i)).filter (fun y => !decide (y = some ps[k].i)), ())) := ⟨_, rfl⟩
  rw [← hT0a] at hA1 hrem
  refine Yld.bnd _ (bnd _ hrem (bF rfl (bnd _ (Parts_ok hA1 (by omega) (by omega)) rfl))) ?_
  refine Yld.cF ?_ ?_
  · rw [List.length_map, hp1, wi64_in (by omega) (by omega)]
    omega
  -- another one in its place
  have ha1 : areas ps1 = row 0 ((l.take k).map lenOf) ++ row (off + size) ((l.drop (k + 1)).map lenOf) := by
    rw [row_take_drop l k hkl] at ha
    have hlr : (row 0 ((l.take k).map lenOf)).length = k := by
      rw [row_length, List.length_map, List.length_take]
      omega
    rw [hps1, areas, List.map_append, List.map_take, List.map_drop]
    show (areas ps).take k ++ (areas ps).drop (k + 1) = _
    rw [ha, List.take_left' hlr, ho, hsz]
    congr 1
    rw [← List.drop_drop, List.drop_left' hlr]
    rfl
  have hid1 : ∀ p, p ∈ ps1 → p.id ≠ 100 ∧ p.id ≠ 200 := fun p hp => by
    have hp : p ∈ ps := by
      rw [hps1] at hp
      rcases List.mem_append.1 hp with hp | hp
      · exact List.mem_of_mem_take hp
      · exact List.mem_of_mem_drop hp
    obtain ⟨j, hj, rfl⟩ := List.mem_iff_getElem.1 hp
    rw [hkid j hj]
    omega
  have hsm1 : Small (areas ps1) := by
    rw [ha1]
    intro x hx
    rcases List.mem_append.1 hx with hx | hx
    · exact row_small _ 0 (fun m hm => (hnn _ m hm).1) (by omega) (by omega) x hx
    · exact row_small _ _ (fun m hm => (hnn _ m hm).1) (by omega) (by omega) x hx
  have hg1 : gapA (areas ps1) b1.length size = ((off : Int), k, true) := by
    have h := gapR_row (n := size) (by omega) ((l.take k).map lenOf) 0 0 (row (off + size) ((l.drop (k + 1)).map lenOf))
    rw [← ha1, Int.zero_add, ho, List.length_map, List.length_take, Nat.zero_add, Nat.min_eq_left (by omega)] at h
    unfold gapA
    rw [h]
    cases hd : (l.drop (k + 1)).map lenOf with
    | nil =>
      simp only [row, gapR, hb1]
      rw [areas_length, hp1]
      have : k = l.length - 1 := by
        have := congrArg List.length hd
        simp only [List.length_map, List.length_drop, List.length_nil] at this
        omega
      rw [this, decide_eq_true (by omega)]
    | cons m r =>
      simp only [row, gapR]
      rw [if_pos (by omega)]
  have hadd1 := Add_go (N := 100000) (id := 100) hA1 (by omega) (by omega) hsm1 (by omega) (size := size) (by omega) (findP_none fun p hp => (hid1 p hp).1)
  rw [hg1] at hadd1
  simp only [if_true] at hadd1
  have hw : wi64 (l.getD k 0 % 50 + 1) = (size : Int) := by rw [← hsz]; exact wi64_in (by omega) (by omega)
  simp only [hw]
  refine Yld.bnd _ hadd1 ?_
  have hA2 := hA1.add (k := k) (id := 100) (off := off) (size := size)
  obtain ⟨T0b, hT0b⟩ : ∃ T0b, T0b = T0a.set t0.length (b1, ((ps1.map (fun p => some p.i)).take k ++ [some T1.length] ++ (ps1.map (fun p => some p.i)).drop k, ())) := ⟨_, rfl⟩
  rw [← hT0b] at hA2 ⊢
  obtain ⟨T1b, hT1b⟩ : ∃ T1b, T1b = T1 ++ [((100 : Int), ((off : Int), ((size : Int), (([] : List (Int × Int)), ()))))] := ⟨_, rfl⟩
  rw [← hT1b] at hA2 ⊢
  have hgk : List.getD (ps.map fun p => (p.id, (p.off, p.size))) k ((0 : Int), ((0 : Int), (0 : Int))) = (ps[k].id, (ps[k].off, ps[k].size)) := by
    refine getD_of ?_ _
    rw [List.getElem?_map, List.getElem?_eq_getElem hkp]
    rfl
  refine Yld.bnd _ (bF rfl rfl) ?_
  refine Yld.cF ?_ ?_
  · simp only [hgk, hko.1, ho]
    exact fun e => e rfl
  obtain ⟨ps2, hps2⟩ : ∃ ps2, ps2 = insP ps1 k ⟨T1.length, 100, off, size, []⟩ := ⟨_, rfl⟩
  rw [← hps2] at hA2
  have hp2 : ps2.length = l.length := by
    rw [hps2, insP]
    simp only [List.length_append, List.length_take, List.length_drop, List.length_cons, List.length_nil]
    omega
  have ha2 : areas ps2 = row 0 (l.map lenOf) := by
    have hlr : (row 0 ((l.take k).map lenOf)).length = k := by
      rw [row_length, List.length_map, List.length_take]
      omega
    rw [row_take_drop l k hkl, hps2, areas, insP, List.map_append, List.map_append, List.map_take, List.map_drop]
    show (areas ps1).take k ++ [(_, _)] ++ (areas ps1).drop k = _
    rw [ha1, List.take_left' hlr, List.drop_left' hlr, ho, hsz]
    simp
  have hid2 : ∀ p, p ∈ ps2 → p.id ≠ 200 := fun p hp => by
    rw [hps2, insP] at hp
    simp only [List.mem_append, List.mem_cons, List.not_mem_nil, or_false] at hp
    rcases hp with (hp | rfl) | hp
    · exact (hid1 p (List.mem_of_mem_take hp)).2
    · simp
    · exact (hid1 p (List.mem_of_mem_drop hp)).2
  have hf2 : (findP ps2 100).isSome = true := by
    unfold findP
    rw [List.find?_isSome]
    exact ⟨⟨T1.length, 100, off, size, []⟩, by rw [hps2, insP]; simp, by simp⟩
  have hsm2 : Small (areas ps2) := by
    rw [ha2]
    exact row_small _ 0 (fun m hm => (hnn _ m hm).1) (by omega) (by omega)
  refine Yld.bnd _ (Add_range hA2 (by omega) (by omega) (.inr hf2)) ?_
  have hw1 : wi64 (701 - tot (l.map lenOf)) = 701 - tot (l.map lenOf) := wi64_in (by omega) (by omega)
  have hw2 : wi64 (700 - tot (l.map lenOf)) = 700 - tot (l.map lenOf) := wi64_in (by omega) (by omega)
  simp only [hw1, hw2]
  have hgA : ∀ n : Int, 1 ≤ n → gapA (areas ps2) b1.length n = (tot (l.map lenOf), l.length, decide (n ≤ 700 - tot (l.map lenOf))) := fun n hn => by
    rw [ha2, gapA_end hn, List.length_map, hb1]
    rfl
  have hadd2 := Add_go (N := 100000) (id := 200) hA2 (by omega) (by omega) hsm2 (by omega) (size := 701 - tot (l.map lenOf)) (by omega) (findP_none fun p hp => hid2 p hp)
  rw [hgA _ (by omega), decide_eq_false (by omega)] at hadd2
  simp only [Bool.false_eq_true, if_false] at hadd2
  refine Yld.bnd _ hadd2 ?_
  have hadd3 := Add_go (N := 100000) (id := 200) hA2 (by omega) (by omega) hsm2 (by omega) (size := 700 - tot (l.map lenOf)) (by omega) (findP_none fun p hp => hid2 p hp)
  rw [hgA _ (by omega), decide_eq_true (by omega)] at hadd3
  simp only [if_true] at hadd3
  refine Yld.bnd _ hadd3 ?_
  refine Yld.bnd _ Is_range ?_
  refine Yld.bT rfl ?_
  refine Yld.bnd _ Is_room ?_
  refine Yld.bT rfl ?_
  refine Yld.bT rfl ?_
  exact Yld.ret (decide_eq_true rfl)

theorem arenaParts_row (x : Val (rowTy ps_lodgelaw13_ArenaParts)) (_ : FitsL ps_lodgelaw13_ArenaParts x) : Yld (F_lodgelaw13_ArenaParts 100000 [] [] x.1 x.2.1) fun y => y.2.1 = true := arenaParts_law x.1 x.2.1

end Go.Proofs.YtnbpgehpjhifgaaDoor.Lx
