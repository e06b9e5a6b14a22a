/-
  The abstract machine, part 17c: a call's end.
-/
import Derived.Test.YtnbpgehpjhifgaaDoorLxEngRb
namespace Go.Eng

/-- new blocks, numbered -/
def numb : Nat → List (Option Blk) → List (Nat × Blk)
  | _, [] => []
  | n, x :: r => match x with
    | some b => (n, b) :: numb (n + 1) r
    | none => numb (n + 1) r

/-- the heap at a call's end: the objects, new blocks from a number on -/
def outH (E : Env) (ks : List Nat) (ts : List Blk) (b0 : Nat) (hp : List (Option Blk)) : List (Option Blk) := entryH E ks ts ++ List.replicate (b0 - E.kinds.length) none ++ hp

theorem outH_tab {E : Env} {ks : List Nat} {ts : List Blk} {b0 : Nat} {hp : List (Option Blk)} {k : Nat} (hk : k < E.kinds.length) : (outH E ks ts b0 hp)[k]? = (entryH E ks ts)[k]? := by
  unfold outH
  rw [List.append_assoc, List.getElem?_append_left (by rw [entryH_length]; exact hk)]

theorem outH_new {E : Env} {ks : List Nat} {ts : List Blk} {b0 : Nat} {hp : List (Option Blk)} (hb : E.kinds.length ≤ b0) (j : Nat) : (outH E ks ts b0 hp)[b0 + j]? = hp[j]? := by
  unfold outH
  have hl : (entryH E ks ts ++ List.replicate (b0 - E.kinds.length) none).length = b0 := by simp [entryH_length]; omega
  rw [List.getElem?_append_right (by omega), hl, Nat.add_sub_cancel_left]

theorem outH_length {E : Env} {ks : List Nat} {ts : List Blk} {b0 : Nat} {hp : List (Option Blk)} (hb : E.kinds.length ≤ b0) : (outH E ks ts b0 hp).length = b0 + hp.length := by
  simp [outH, entryH_length]; omega

theorem numb_mem : ∀ (hp : List (Option Blk)) (b0 j : Nat) (b : Blk), hp[j]? = some (some b) → (b0 + j, b) ∈ numb b0 hp
  | [], _, _, _, h => by simp at h
  | x :: r, b0, 0, b, h => by
    simp only [List.getElem?_cons_zero, Option.some.injEq] at h
    subst h
    simp [numb]
  | x :: r, b0, j + 1, b, h => by
    have := numb_mem r (b0 + 1) j b (by simpa using h)
    rw [show b0 + 1 + j = b0 + (j + 1) from by omega] at this
    cases x with
    | none => simpa only [numb] using this
    | some y => simp only [numb]; exact List.mem_cons_of_mem _ this

theorem numb_length : ∀ (hp : List (Option Blk)) (b0 : Nat), (∀ x, x ∈ hp → x.isSome = true) → (numb b0 hp).length = hp.length
  | [], _, _ => rfl
  | none :: r, b0, hs => by simpa using hs none (by simp)
  | some b :: r, b0, hs => by simp only [numb, List.length_cons]; rw [numb_length r _ fun x hx => hs x (by simp [hx])]

/-- as references -/
abbrev refs (l : List (Nat × Blk)) : List (Ref × Blk) := l.map fun p => (.l p.1, p.2)

theorem putAll_refs : ∀ (hp : List (Option Blk)) (b0 : Nat) (h : List (Option Blk)) (id : Nat), (∀ x, x ∈ hp → x.isSome = true) → b0 + hp.length ≤ h.length →
    (putAll h (refs (numb b0 hp)))[id]? = if b0 ≤ id ∧ id < b0 + hp.length then hp[id - b0]? else h[id]?
  | [], b0, h, id, _, _ => by
    simp only [numb, refs, List.map_nil, putAll, List.length_nil, Nat.add_zero]
    rw [if_neg (by omega)]
  | none :: r, b0, h, id, hs, _ => by simpa using hs none (by simp)
  | some b :: r, b0, h, id, hs, hl => by
    simp only [List.length_cons] at hl ⊢
    simp only [numb, refs, List.map_cons, putAll, putH]
    have := putAll_refs r (b0 + 1) (h.set b0 (some b)) id (fun x hx => hs x (by simp [hx])) (by simp; omega)
    simp only [refs] at this
    rw [this]
    by_cases h1 : id = b0
    · subst h1
      rw [if_neg (by omega), if_pos (by omega), List.getElem?_set_self (by omega), Nat.sub_self]
      rfl
    · by_cases h2 : b0 + 1 ≤ id ∧ id < b0 + 1 + r.length
      · rw [if_pos h2, if_pos (by omega), show id - b0 = (id - (b0 + 1)) + 1 from by omega, List.getElem?_cons_succ]
      · rw [if_neg h2, if_neg (by omega), List.getElem?_set_ne (Ne.symm h1)]

theorem backBs_other : ∀ (ks : List Nat) (bs ts : List Blk) (h : List (Option Blk)) (k : Nat), k ∉ ks → (putAll h (backBs ks bs ts))[k]? = h[k]?
  | [], _, _, _, _, _ => by simp [backBs, putAll]
  | _ :: _, [], _, _, _, _ => by simp [backBs, putAll]
  | _ :: _, _ :: _, [], _, _, _ => by simp [backBs, putAll]
  | k' :: ks, b :: bs, t :: ts, h, k, hn => by
    simp only [List.mem_cons, not_or] at hn
    simp only [backBs, putAll, putH]
    rw [backBs_other ks bs ts _ k hn.2, List.getElem?_set_ne (fun e => hn.1 e.symm)]

theorem backBs_at : ∀ (ks : List Nat) (bs ts : List Blk) (h : List (Option Blk)) (j k : Nat) (b t : Blk), ks.Nodup → (∀ k, k ∈ ks → k < h.length) → ks[j]? = some k → bs[j]? = some b → ts[j]? = some t → (putAll h (backBs ks bs ts))[k]? = some (some (backB b t))
  | [], _, _, _, j, k, b, t, _, _, hk, _, _ => by simp at hk
  | _ :: _, [], _, _, j, k, b, t, _, _, _, hb, _ => by simp at hb
  | _ :: _, _ :: _, [], _, j, k, b, t, _, _, _, _, ht => by simp at ht
  | k' :: ks, b' :: bs, t' :: ts, h, 0, k, b, t, hn, hl, hk, hb, ht => by
    simp only [List.getElem?_cons_zero, Option.some.injEq] at hk hb ht
    subst hk; subst hb; subst ht
    simp only [List.nodup_cons] at hn
    simp only [backBs, putAll, putH]
    rw [backBs_other ks bs ts _ k' hn.1, List.getElem?_set_self (hl k' (by simp))]
  | k' :: ks, b' :: bs, t' :: ts, h, j + 1, k, b, t, hn, hl, hk, hb, ht => by
    simp only [List.nodup_cons] at hn
    simp only [backBs, putAll, putH]
    exact backBs_at ks bs ts _ j k b t hn.2 (fun x hx => by simpa using hl x (by simp [hx])) (by simpa using hk) (by simpa using hb) (by simpa using ht)

theorem backBs_length : ∀ (ks : List Nat) (bs ts : List Blk) (h : List (Option Blk)), (putAll h (backBs ks bs ts)).length = h.length
  | [], _, _, _ => by simp [backBs, putAll]
  | _ :: _, [], _, _ => by simp [backBs, putAll]
  | _ :: _, _ :: _, [], _ => by simp [backBs, putAll]
  | k' :: ks, b' :: bs, t' :: ts, h => by simp only [backBs, putAll, putH]; rw [backBs_length]; simp

theorem likeBs_at : ∀ {bs ts : List Blk}, likeBs bs ts = true → bs.length = ts.length ∧ ∀ (j : Nat) (b t : Blk), bs[j]? = some b → ts[j]? = some t → likeB b t = true
  | [], [], _ => ⟨rfl, fun j b t h _ => by simp at h⟩
  | [], _ :: _, h => by simp [likeBs] at h
  | _ :: _, [], h => by simp [likeBs] at h
  | b' :: bs, t' :: ts, h => by
    simp only [likeBs, Bool.and_eq_true] at h
    obtain ⟨h1, h2⟩ := likeBs_at h.2
    refine ⟨by simp [h1], fun j b t hb ht => ?_⟩
    cases j with
    | zero =>
      simp only [List.getElem?_cons_zero, Option.some.injEq] at hb ht
      subst hb; subst ht
      exact h.1
    | succ j => exact h2 j b t (by simpa using hb) (by simpa using ht)

theorem genB_idx : ∀ (ks : List Nat) (bs : List Blk) (k q : Nat), k ∈ ks → bs.length = ks.length → ∃ (j : Nat) (b : Blk), ks[j]? = some k ∧ bs[j]? = some b ∧ genB ks bs k q = b.gq q
  | [], _, _, _, hk, _ => by cases hk
  | _ :: _, [], _, _, _, hl => by simp at hl
  | k' :: ks, b :: bs, k, q, hk, hl => by
    simp only [genB]
    cases hb : Nat.beq k' k with
    | true => exact ⟨0, b, by simp [Nat.eq_of_beq_eq_true hb], rfl, rfl⟩
    | false =>
      have hne : k ≠ k' := fun e => by rw [e, Nat.beq_refl] at hb; cases hb
      obtain ⟨j, b', h1, h2, h3⟩ := genB_idx ks bs k q (by simpa [hne] using hk) (by simpa using hl)
      exact ⟨j + 1, b', by simpa using h1, by simpa using h2, h3⟩

section
variable {c : Ctx} {I : Nat → Prop} {L : Ref → Option Pl} {s : St} {a : Act} {w : World} {call : CallF}

/-- how often an object's slices were turned -/
def gOf (h : List (Option Blk)) (k q : Nat) : Nat := match h[k]? with
  | some (some b) => match b.ct with
    | .tab _ _ _ gs => gs.getD q 0
    | _ => 0
  | _ => 0

def backL (h : List (Option Blk)) (ks : List Nat) (b0 m : Nat) (L L' : Ref → Option Pl) : Ref → Option Pl
  | .l id => if b0 ≤ id ∧ id < b0 + m then L' (.l id) else L (.l id)
  | .o k i q => if k ∈ ks then (if q = 0 then L' (.o k i 0) else (L' (.o k i q)).map fun p => { p with gen := gOf h k q + 1 }) else L (.o k i q)

theorem Sim.back (h : Sim c I L s a w) {Ih : Nat → Prop} (hIh : ∀ b, I b → Ih b) {ks : List Nat} {bs ts : List Blk} {b0 : Nat} {nb : List (Option Blk)} (hnd : ks.Nodup) (hlt : ∀ k, k ∈ ks → k < c.E.kinds.length) (hlen : bs.length = ks.length)
    (hb : ∀ (j k : Nat) (b : Blk), ks[j]? = some k → bs[j]? = some b → s.heap[k]? = some (some b)) (hclean : bs.all (cleanB ks) = true) (hlike : likeBs bs ts = true) (hb0 : c.E.kinds.length ≤ b0) (hsome : ∀ x, x ∈ nb → x.isSome = true) (hnt : ∀ b, some b ∈ nb → b.isTab = false)
    (hfree : ∀ j, j < nb.length → s.heap[b0 + j]? = some none) {I' : Nat → Prop} {L' : Ref → Option Pl} {r : AV} {v : Value} {w' : World}
    (hC : Sim (calleeC c Ih L w ks) I' L' ⟨[r], outH c.E ks ts b0 nb⟩ { tmps := #[v], defers := [] } w')
    {fl : Bool} {I'' : Nat → Prop} (hI1 : ∀ b, I b → I'' b) (hI3 : ∀ b, I'' b → I b ∨ w.heap.size ≤ b ∨ calleeRt ks L b) (hI4 : ∀ b, I'' b → I' b) (hto : fl = false → ∀ b, I' b → I'' b)
    (hrok : r.okR ks ts fl b0 = true) (hhok : ∀ b, some b ∈ nb → b.ok ks fl b0 = true) (htok : ts.all (Blk.ok ks fl b0) = true) :
    ∃ L'', Sim c I'' L'' ⟨s.env, putAll s.heap (backBs ks bs ts ++ refs (numb b0 nb))⟩ a w' ∧ Rep (c.rc I'' L'' w') L'' (r.turn ks bs) v := by
  have hbox : ∀ k i p, calleeL c.E ks L (.o k i 0) = some p → L' (.o k i 0) = some p := fun k i p hp => hC.bx k i p hp
  obtain ⟨hlen2, hlike⟩ := likeBs_at hlike
  have hkh : ∀ k, k ∈ ks → k < s.heap.length := fun k hk => by
    obtain ⟨j, b, cs, l, gs, h1, h2, h3, _⟩ := kind_in hlen hb hclean hk
    exact (List.getElem?_eq_some_iff.1 h3).1
  have hroom : b0 + nb.length ≤ s.heap.length ∨ nb = [] := by
    cases nb with
    | nil => exact .inr rfl
    | cons x r0 =>
      left
      have := hfree r0.length (by simp)
      have := (List.getElem?_eq_some_iff.1 this).1
      simp only [List.length_cons]
      omega
  obtain ⟨H, hH⟩ : ∃ H, H = putAll s.heap (backBs ks bs ts ++ refs (numb b0 nb)) := ⟨_, rfl⟩
  have hHi : ∀ id, H[id]? = if b0 ≤ id ∧ id < b0 + nb.length then nb[id - b0]? else (putAll s.heap (backBs ks bs ts))[id]? := by
    intro id
    rw [hH, putAll_append]
    rcases hroom with hr | rfl
    · exact putAll_refs nb b0 _ id hsome (by rw [backBs_length]; exact hr)
    · simp only [numb, refs, List.map_nil, putAll, List.length_nil, Nat.add_zero]
      rw [if_neg (by omega)]
  -- a kind's objects, before, within and behind
  have hk : ∀ k, k ∈ ks → ∃ (b t : Blk) (cs : List Cell) (l l' : List (Val (rowsTy cs))) (gs gt : List Nat), s.heap[k]? = some (some b) ∧ b.ct = .tab cs l [] gs ∧ cs.all (Cell.ok ks false) = true ∧ cs.all (Cell.ok ks fl) = true ∧
      (outH c.E ks ts b0 nb)[k]? = some (some t) ∧ t.ct = .tab cs l' [] gt ∧ H[k]? = some (some { b with ct := .tab cs l' [] ((List.range ((ownQs cs 1).length + 1)).map fun q => gs.getD q 0 + 1) }) := by
    intro k hkk
    obtain ⟨j, b, cs, l, gs, h1, h2, h3, h4, h5⟩ := kind_in hlen hb hclean hkk
    have hj : j < bs.length := (List.getElem?_eq_some_iff.1 h2).1
    have hjt : j < ts.length := by omega
    have ht : ts[j]? = some ts[j] := List.getElem?_eq_getElem hjt
    have hl := hlike j b _ h2 ht
    have htk : ts[j].ok ks fl b0 = true := by
      rw [List.all_eq_true] at htok
      exact htok _ (List.getElem_mem hjt)
    generalize ts[j] = t at *
    unfold likeB at hl
    rw [h4] at hl
    split at hl
    · rename_i cs0 l0 st0 gs0 cs' l' st' gt hc0 hct
      injection hc0 with hc0
      subst hc0
      simp only [Bool.and_eq_true, decide_eq_true_eq] at hl
      obtain ⟨rfl, hst⟩ := hl
      have hst : st' = [] := by simpa using hst
      subst hst
      have hkb : ¬ (b0 ≤ k ∧ k < b0 + nb.length) := fun hx => by
        have := hlt k hkk
        omega
      refine ⟨b, t, cs', l, l', gs, gt, h3, h4, h5, ?_, ?_, hct, ?_⟩
      · unfold Blk.ok at htk
        rw [hct] at htk
        exact htk
      · rw [outH_tab (hlt k hkk)]
        exact putK_at _ ks ts j k t hnd (fun k hk => by simpa using hlt k hk) h1 ht
      · rw [hHi, if_neg hkb, backBs_at ks bs ts s.heap j k b t hnd hkh h1 h2 ht]
        simp only [backB, h4, hct, if_true]
    · cases hl
  have hgk : ∀ k q b (cs : List Cell) (l : List (Val (rowsTy cs))) (gs : List Nat), s.heap[k]? = some (some b) → b.ct = .tab cs l [] gs → gOf s.heap k q = gs.getD q 0 := by
    intro k q b cs l gs h1 h2
    simp only [gOf, h1, h2]
  have hgs' : ∀ (cs : List Cell) (gs : List Nat) q, q ∈ ownQs cs 1 → ((List.range ((ownQs cs 1).length + 1)).map fun q => gs.getD q 0 + 1).getD q 0 = gs.getD q 0 + 1 := by
    intro cs gs q hq
    have := ownQs_range hq
    rw [List.getD_eq_getElem?_getD, List.getElem?_map, List.getElem?_range (by omega)]
    rfl
  have hother : ∀ id, id ∉ ks → ¬ (b0 ≤ id ∧ id < b0 + nb.length) → H[id]? = s.heap[id]? := by
    intro id h1 h2
    rw [hHi, if_neg h2, backBs_other ks bs ts s.heap id h1]
  have hnew : ∀ id, b0 ≤ id ∧ id < b0 + nb.length → H[id]? = nb[id - b0]? := fun id h1 => by rw [hHi, if_pos h1]
  have hLn : ∀ id, b0 ≤ id ∧ id < b0 + nb.length → L (.l id) = none := by
    intro id h1
    have := hfree (id - b0) (by omega)
    rw [show b0 + (id - b0) = id from by omega] at this
    exact free_L h this
  -- the places
  obtain ⟨L2, hL2⟩ : ∃ L2, L2 = backL s.heap ks b0 nb.length L L' := ⟨_, rfl⟩
  have L2n : ∀ id, b0 ≤ id ∧ id < b0 + nb.length → L2 (.l id) = L' (.l id) := fun id h1 => by rw [hL2]; exact if_pos h1
  have L2l : ∀ id, ¬ (b0 ≤ id ∧ id < b0 + nb.length) → L2 (.l id) = L (.l id) := fun id h1 => by rw [hL2]; exact if_neg h1
  have L2b : ∀ k i, k ∈ ks → L2 (.o k i 0) = L' (.o k i 0) := fun k i h1 => by
    rw [hL2]
    show (if k ∈ ks then _ else _) = _
    rw [if_pos h1, if_pos rfl]
  have L2q : ∀ k i q, k ∈ ks → 1 ≤ q → L2 (.o k i q) = (L' (.o k i q)).map fun p => { p with gen := gOf s.heap k q + 1 } := fun k i q h1 h2 => by
    rw [hL2]
    show (if k ∈ ks then _ else _) = _
    rw [if_pos h1, if_neg (by omega)]
  have L2o : ∀ k i q, k ∉ ks → L2 (.o k i q) = L (.o k i q) := fun k i q h1 => by rw [hL2]; exact if_neg h1
  have hbox' : ∀ k i p, k ∈ ks → L (.o k i 0) = some p → L' (.o k i 0) = some p := by
    intro k i p hkk hp
    refine hbox k i p ?_
    show (if k ∈ ks then _ else _) = _
    rw [if_pos hkk, hp]
    obtain ⟨b, t, cs, l, l', gs, gt, h1, h2, _⟩ := hk k hkk
    have := (slice_gen h h1 h2 hp).2.1 rfl
    rw [Option.map_some, ← this]
  -- callee's slices
  have hcs : ∀ k i q b t (cs : List Cell) (l l' : List (Val (rowsTy cs))) (gt : List Nat), k ∈ ks → (outH c.E ks ts b0 nb)[k]? = some (some t) → t.ct = .tab cs l' [] gt → L' (.o k i q) = some b → _ := fun k i q b t cs l l' gt _ h1 h2 hp => slice_gen hC h1 h2 hp
  have hLLe : LLe L L2 := by
    intro x p hp
    cases x with
    | l id =>
      by_cases h1 : b0 ≤ id ∧ id < b0 + nb.length
      · rw [hLn id h1] at hp; cases hp
      · exact ⟨p, by rw [L2l id h1]; exact hp, rfl, .inl rfl⟩
    | o k i q =>
      by_cases hkk : k ∈ ks
      · obtain ⟨b, t, cs, l, l', gs, gt, h1, h2, h3, h3', h4, h5, h6⟩ := hk k hkk
        obtain ⟨hil, g0, g1⟩ := slice_gen h h1 h2 hp
        by_cases hq : q = 0
        · subst hq
          exact ⟨p, by rw [L2b k i hkk]; exact hbox' k i p hkk hp, rfl, .inl rfl⟩
        · have hq1 : 1 ≤ q := by omega
          obtain ⟨e1, e2, ty, y, e3, e4⟩ := g1 hq1
          -- the object is there still
          obtain ⟨bx, hbx⟩ := h.dom _ p hp
          have hboxL : ∃ pb, L (.o k i 0) = some pb := by
            have : rdv s.heap (.o k i 0) = some { ct := .box (rowO k i (fun q => decide ((q, i) ∈ ([] : List (Nat × Nat)))) gs cs 1 (l.getD i (dfl (rowsTy cs)))), gen := 0, frozen := false } := by
              simp only [rdv, h1, h2, if_pos hil, viewV]
            obtain ⟨pb, hpb, _⟩ := h.blk _ _ this
            exact ⟨pb, hpb⟩
          obtain ⟨pb, hpb⟩ := hboxL
          have hpb' := hbox' k i pb hkk hpb
          obtain ⟨hil', _⟩ := slice_gen hC h4 h5 hpb'
          obtain ⟨ty', y', hsl'⟩ := slO_some (x := l'.getD i (dfl (rowsTy cs))) e2
          have hty := slO_same hsl' e3
          subst hty
          obtain ⟨q, rfl⟩ := Nat.exists_eq_add_of_le' hq1
          have hv : rdv (outH c.E ks ts b0 nb) (.o k i (q + 1)) = some { ct := .sl ty' y', gen := gt.getD (q + 1) 0, frozen := false } := by
            simp only [rdv, h4, h5, if_pos hil', viewV, hsl', List.not_mem_nil, if_false]
          obtain ⟨p', hp', hkp, _⟩ := hC.blk _ _ hv
          refine ⟨{ p' with gen := gOf s.heap k (q + 1) + 1 }, by rw [L2q k i _ hkk (by omega), hp']; rfl, ?_, .inr ⟨?_, fun hb => hb⟩⟩
          · show p'.w = p.w
            rw [e4]
            rcases hkp.2 with ⟨_, _, e⟩ | ⟨_, e, _⟩
            · exact e
            · exact e
          · show p.gen < gOf s.heap k (q + 1) + 1
            rw [e1, hgk k (q + 1) b cs l gs h1 h2]
            exact Nat.lt_succ_self _
      · exact ⟨p, by rw [L2o k i q hkk]; exact hp, rfl, .inl rfl⟩
  have hRtI : ∀ b, calleeRt ks L b → ¬ I b := by
    rintro b ⟨k, i, q, p, hkk, hp, hv, rfl⟩ hI
    obtain ⟨x, hx⟩ := h.dom _ p hp
    obtain ⟨p2, hp2, _, hf⟩ := h.blk _ x hx
    rw [hp] at hp2
    injection hp2 with hp2
    subst hp2
    obtain ⟨b, t, cs, l, l', gs, gt, h1, h2, _⟩ := hk k hkk
    have hz : x.frozen = false := by
      simp only [rdv, h1, h2] at hx
      split at hx
      · cases q with
        | zero => simp only [viewV, Option.some.injEq] at hx; subst hx; rfl
        | succ q =>
          simp only [viewV] at hx
          split at hx
          · simp only [List.not_mem_nil, if_false, Option.some.injEq] at hx; subst hx; rfl
          · cases hx
      · cases hx
    exact hf hz hv hI
  have hsame : ∀ b, b < w.heap.size → ¬ calleeRt ks L b → w'.heap[b]? = w.heap[b]? := fun b h1 h2 => hC.same b h1 h2
  have hgrow : w.heap.size ≤ w'.heap.size := hC.grow
  have hr : RLe (c.rc I L w) (c.rc I'' L2 w') := rle_of_heap hI1 (fun b hI => hsame b (h.imm b hI) fun hx => hRtI b hx hI) hLLe
  have hcto : RTo (rcW (statOf c.E c.S) I' L' w') (c.rc I'' L2 w') ks fl := by
    refine ⟨rfl, rfl, hto, fun k i b hkk hb => ?_⟩
    simp only [Ctx.rc, rcW, hOf] at hb ⊢
    rw [L2b k i hkk]
    exact hb
  have hids : ∀ id p, b0 ≤ id → L' (.l id) = some p → L2 (.l id) = some p := by
    intro id p h1 hp
    obtain ⟨x, hx⟩ := hC.dom _ p hp
    have := (List.getElem?_eq_some_iff.1 (rdv_l.1 hx)).1
    simp only at this
    rw [outH_length hb0] at this
    rw [L2n id ⟨h1, this⟩]
    exact hp
  have hfarO : ∀ r p, L r = some p → p.virt = false → (∀ k i q, r = .o k i q → k ∉ ks) → p.b < w.heap.size ∧ ¬ calleeRt ks L p.b := by
    intro r p hp hv hr
    refine ⟨(h.own r p hp hv).2, ?_⟩
    rintro ⟨k, i, q, p', hkk, hp', hv', hbb⟩
    have := h.inj _ _ p' p hp' hp hv' hv hbb
    exact hr k i q this.symm hkk
  have holdB : ∀ r p x, L r = some p → (∀ k i q, r = .o k i q → k ∉ ks) → BlkOK (c.rc I L w) L w p x → BlkOK (c.rc I'' L2 w') L2 w' p x := by
    intro r p x hp hr' hkx
    exact hkx.mono hr hLLe (fun hv => hsame _ (hfarO r p hp hv hr').1 (hfarO r p hp hv hr').2) (fun hv o => cell?_heap _ _ (hsame _ (hfarO r p hp hv hr').1 (hfarO r p hp hv hr').2))
  have holdI : ∀ r p, L r = some p → p.virt = false → (∀ k i q, r = .o k i q → k ∉ ks) → ¬ I p.b → ¬ I'' p.b := by
    intro r p hp hv hr' hI hI2
    obtain ⟨h1, h2⟩ := hfarO r p hp hv hr'
    rcases hI3 _ hI2 with h3 | h3 | h3
    · exact hI h3
    · omega
    · exact h2 h3
  have hnewI : ∀ r p, L' r = some p → p.virt = false → ¬ I' p.b → ¬ I'' p.b := fun r p _ _ h1 h2 => h1 (hI4 _ h2)
  -- from which call a place is
  have hfrom : ∀ r p, L2 r = some p → p.virt = false → (L r = some p ∧ (∀ k i q, r = .o k i q → k ∉ ks) ∧ ∀ id, r = .l id → ¬ (b0 ≤ id ∧ id < b0 + nb.length)) ∨ (∃ p0, L' r = some p0 ∧ p0.virt = false ∧ p0.b = p.b ∧ ((∃ k i q, r = .o k i q ∧ k ∈ ks) ∨ ∃ id, r = .l id ∧ b0 ≤ id ∧ id < b0 + nb.length)) := by
    intro r p hp0 hv
    cases r with
    | l id =>
      by_cases h1 : b0 ≤ id ∧ id < b0 + nb.length
      · rw [L2n id h1] at hp0
        exact .inr ⟨p, hp0, hv, rfl, .inr ⟨id, rfl, h1⟩⟩
      · rw [L2l id h1] at hp0
        exact .inl ⟨hp0, (fun k i q e => by cases e), fun id' e => by injection e with e; rw [← e]; exact h1⟩
    | o k i q =>
      by_cases hkk : k ∈ ks
      · by_cases hq : q = 0
        · subst hq
          rw [L2b k i hkk] at hp0
          exact .inr ⟨p, hp0, hv, rfl, .inl ⟨k, i, 0, rfl, hkk⟩⟩
        · rw [L2q k i q hkk (by omega)] at hp0
          obtain ⟨p0, hp1, rfl⟩ := Option.map_eq_some_iff.1 hp0
          exact .inr ⟨p0, hp1, hv, rfl, .inl ⟨k, i, q, rfl, hkk⟩⟩
      · rw [L2o k i q hkk] at hp0
        exact .inl ⟨hp0, (fun k' i' q' e => by injection e with e _ _; rw [← e]; exact hkk), fun id e => by cases e⟩
  have hown' : ∀ r p0, L' r = some p0 → p0.virt = false → (c.w0.heap.size ≤ p0.b ∨ c.Rt p0.b) ∧ p0.b < w'.heap.size := by
    intro r p0 hp0 hv
    obtain ⟨h1, h2⟩ := hC.own r p0 hp0 hv
    refine ⟨?_, h2⟩
    rcases h1 with h1 | ⟨k, i, q, p1, _, hp1, hv1, hbb⟩
    · exact .inl (Nat.le_trans h.grow h1)
    · rw [← hbb]
      exact (h.own _ p1 hp1 hv1).1
  rw [← hH]
  refine ⟨L2, ⟨h.env.mono hr hLLe, h.defers, fun r x hx => ?_, fun r p hp => ?_, fun r p hp hv => ?_, fun r r' p p' hp hp' hv hv' hbb => ?_, fun b hb => ?_, fun b hb => hI1 b (h.i0 b hb), fun b hb => ?_, fun b hb1 hb2 => ?_, h.fix, fun k i p hp => hLLe.box (h.bx k i p hp), Nat.le_trans h.grow hgrow, h.io.trans hC.io⟩, ?_⟩
  · -- blocks
    cases r with
    | l id =>
      have hx' := rdv_l.1 hx
      by_cases h1 : b0 ≤ id ∧ id < b0 + nb.length
      · simp only at hx'
        rw [hnew id h1] at hx'
        have hv : rdv (outH c.E ks ts b0 nb) (.l id) = some x := by
          rw [rdv_l, show id = b0 + (id - b0) from by omega, outH_new hb0]
          exact hx'
        obtain ⟨p, hp, hkx, hf⟩ := hC.blk _ _ hv
        refine ⟨p, by rw [L2n id h1]; exact hp, ?_, fun hz hv => hnewI _ p hp hv (hf hz hv)⟩
        have hmem : some x ∈ nb := List.mem_of_getElem? hx'
        have hxo := hhok x hmem
        have hxt := hnt x hmem
        unfold Blk.ok at hxo
        unfold Blk.isTab at hxt
        unfold BlkOK at hkx ⊢
        refine ⟨hkx.1, ?_⟩
        have hkx := hkx.2
        split at hkx
        · rename_i row hct
          rw [hct] at hxo
          obtain ⟨e1, e2, cc, T, e3, e4⟩ := hkx
          exact ⟨e1, e2, cc, T, e3, RepL.to_all hxo (fun y v _ hy hr0 => Rep.to hcto hids 8 hy hr0) e4⟩
        · rename_i t l hct
          rw [hct] at hxo
          rcases hkx with ⟨e1, e2, e3⟩ | ⟨e1, e2, cc, T, e3, e4, e5, e6⟩
          · exact .inl ⟨e1, e2, e3⟩
          · refine .inr ⟨e1, e2, cc, T, e3, e4, e5, fun j hj => ?_⟩
            obtain ⟨d, hd, hda⟩ := e6 j hj
            exact ⟨d, RepT.to hcto t hxo hd, hcto.at hda⟩
        · rename_i hct
          rw [hct] at hxt
          cases hxt
      · by_cases hkk : id ∈ ks
        · obtain ⟨b, t, cs, l, l', gs, gt, g1, g2, g3, g3', g4, g5, g6⟩ := hk id hkk
          simp only at hx'
          rw [g6] at hx'
          injection hx' with hx'
          injection hx' with hx'
          subst hx'
          obtain ⟨p1, hp1, hk1, hf1⟩ := h.blk (.l id) b (rdv_l.2 g1)
          refine ⟨p1, by rw [L2l id h1]; exact hp1, ?_, fun hz hv => ?_⟩
          · unfold BlkOK at hk1 ⊢
            rw [g2] at hk1
            exact hk1
          · have := hk1.2
            rw [g2] at this
            rw [this] at hv
            cases hv
        · simp only at hx'
          rw [hother id hkk h1] at hx'
          obtain ⟨p1, hp1, hk1, hf1⟩ := h.blk (.l id) x (rdv_l.2 hx')
          exact ⟨p1, by rw [L2l id h1]; exact hp1, holdB _ p1 x hp1 (fun k i q e => by cases e) hk1, fun hz hv => holdI _ p1 hp1 hv (fun k i q e => by cases e) (hf1 hz hv)⟩
    | o k i q =>
      by_cases hkk : k ∈ ks
      · obtain ⟨b, t, cs, l, l', gs, gt, g1, g2, g3, g3', g4, g5, g6⟩ := hk k hkk
        simp only [rdv, g6] at hx
        split at hx
        rotate_left
        · cases hx
        rename_i hil
        cases q with
        | zero =>
          simp only [viewV, Option.some.injEq] at hx
          subst hx
          have hv : rdv (outH c.E ks ts b0 nb) (.o k i 0) = some { ct := .box (rowO k i (fun q => decide ((q, i) ∈ ([] : List (Nat × Nat)))) gt cs 1 (l'.getD i (dfl (rowsTy cs)))), gen := 0, frozen := false } := by
            simp only [rdv, g4, g5, if_pos hil, viewV]
          obtain ⟨p, hp, hkx, hf⟩ := hC.blk _ _ hv
          obtain ⟨e1, e2, e3, cc, T, e4, e5⟩ := hkx
          refine ⟨p, by rw [L2b k i hkk]; exact hp, ⟨e1, e2, e3, cc, T, e4, ?_⟩, fun hz hv => hnewI _ p hp hv (hf hz hv)⟩
          refine rowO_to hcto (fun q p hp hq => ?_) g3' (Nat.le_refl 1) e5
          obtain ⟨_, _, hg⟩ := slice_gen hC g4 g5 hp
          obtain ⟨hg1, hg2, _⟩ := hg hq
          refine ⟨hg1, ?_⟩
          rw [L2q k i q hkk hq, hp, hgs' cs gs q hg2, hgk k q b cs l gs g1 g2]
          rfl
        | succ q =>
          simp only [viewV] at hx
          split at hx
          rotate_left
          · cases hx
          rename_i ty y hsl
          simp only [List.not_mem_nil, if_false, Option.some.injEq] at hx
          subst hx
          have hv : rdv (outH c.E ks ts b0 nb) (.o k i (q + 1)) = some { ct := .sl ty y, gen := gt.getD (q + 1) 0, frozen := false } := by
            simp only [rdv, g4, g5, if_pos hil, viewV, hsl, List.not_mem_nil, if_false]
          obtain ⟨p, hp, hkx, hf⟩ := hC.blk _ _ hv
          refine ⟨{ p with gen := gOf s.heap k (q + 1) + 1 }, by rw [L2q k i _ hkk (by omega), hp]; rfl, ⟨?_, ?_⟩, fun hz hv => hnewI _ p hp hv (hf hz hv)⟩
          · show gOf s.heap k (q + 1) + 1 = _
            rw [hgs' cs gs _ (slO_own hsl), hgk k (q + 1) b cs l gs g1 g2]
          · have htk := slO_ty g3' hsl
            rcases hkx.2 with ⟨e1, e2, e3⟩ | ⟨e1, e2, cc, T, e3, e4, e5, e6⟩
            · exact .inl ⟨e1, e2, e3⟩
            · refine .inr ⟨e1, e2, cc, T, e3, e4, e5, fun j hj => ?_⟩
              obtain ⟨d, hd, hda⟩ := e6 j hj
              exact ⟨d, RepT.to hcto ty htk hd, hcto.at hda⟩
      · have hx0 : rdv s.heap (.o k i q) = some x := by
          by_cases h1 : b0 ≤ k ∧ k < b0 + nb.length
          · exfalso
            simp only [rdv, hnew k h1] at hx
            split at hx
            · rename_i x0 hx0
              have := hnt x0 (List.mem_of_getElem? hx0)
              unfold Blk.isTab at this
              split at hx
              · rename_i hct; rw [hct] at this; cases this
              · cases hx
            · cases hx
          · simp only [rdv, hother k hkk h1] at hx
            exact hx
        obtain ⟨p1, hp1, hk1, hf1⟩ := h.blk _ x hx0
        have hne : ∀ k' i' q', Ref.o k i q = .o k' i' q' → k' ∉ ks := fun k' i' q' e => by injection e with e _ _; rw [← e]; exact hkk
        exact ⟨p1, by rw [L2o k i q hkk]; exact hp1, holdB _ p1 x hp1 hne hk1, fun hz hv => holdI _ p1 hp1 hv hne (hf1 hz hv)⟩
  · -- places
    cases r with
    | l id =>
      by_cases h1 : b0 ≤ id ∧ id < b0 + nb.length
      · rw [L2n id h1] at hp
        obtain ⟨x, hx⟩ := hC.dom _ p hp
        have hx' := rdv_l.1 hx
        simp only at hx'
        rw [show id = b0 + (id - b0) from by omega, outH_new hb0] at hx'
        exact ⟨x, rdv_l.2 (by simp only; rw [hnew id h1]; exact hx')⟩
      · rw [L2l id h1] at hp
        obtain ⟨x, hx⟩ := h.dom _ p hp
        have hx' := rdv_l.1 hx
        by_cases hkk : id ∈ ks
        · obtain ⟨b, t, cs, l, l', gs, gt, g1, g2, g3, g3', g4, g5, g6⟩ := hk id hkk
          exact ⟨_, rdv_l.2 g6⟩
        · exact ⟨x, rdv_l.2 (by simp only; rw [hother id hkk h1]; exact hx')⟩
    | o k i q =>
      by_cases hkk : k ∈ ks
      · obtain ⟨b, t, cs, l, l', gs, gt, g1, g2, g3, g3', g4, g5, g6⟩ := hk k hkk
        have hL'q : ∃ p0, L' (.o k i q) = some p0 := by
          by_cases hq : q = 0
          · subst hq; rw [L2b k i hkk] at hp; exact ⟨p, hp⟩
          · rw [L2q k i q hkk (by omega)] at hp
            obtain ⟨p0, hp0, _⟩ := Option.map_eq_some_iff.1 hp
            exact ⟨p0, hp0⟩
        obtain ⟨p0, hp0⟩ := hL'q
        obtain ⟨hil, _, hq⟩ := slice_gen hC g4 g5 hp0
        simp only [rdv, g6, if_pos hil]
        cases q with
        | zero => exact ⟨_, rfl⟩
        | succ q =>
          obtain ⟨_, _, ty, y, hsl, _⟩ := hq (by omega)
          simp only [viewV, hsl]
          exact ⟨_, rfl⟩
      · rw [L2o k i q hkk] at hp
        obtain ⟨x, hx⟩ := h.dom _ p hp
        have h1 : ¬ (b0 ≤ k ∧ k < b0 + nb.length) := fun h1 => by
          have hf := hfree (k - b0) (by omega)
          rw [show b0 + (k - b0) = k from by omega] at hf
          simp only [rdv, hf] at hx
          cases hx
        refine ⟨x, ?_⟩
        simp only [rdv, hother k hkk h1] at hx ⊢
        exact hx
  · rcases hfrom r p hp hv with ⟨hp0, hr', _⟩ | ⟨p0, hp0, hv0, hbb, _⟩
    · exact ⟨(h.own r p hp0 hv).1, Nat.lt_of_lt_of_le (h.own r p hp0 hv).2 hgrow⟩
    · rw [← hbb]
      exact hown' r p0 hp0 hv0
  · have mixed : ∀ r p r' p', L r = some p → p.virt = false → (∀ k i q, r = .o k i q → k ∉ ks) → L' r' = some p' → p'.virt = false → p.b ≠ p'.b := by
      intro r p r' p' hp hv hr' hp' hv' hbb
      obtain ⟨h1, h2⟩ := hfarO r p hp hv hr'
      rcases (hC.own r' p' hp' hv').1 with h3 | h3
      · have h3 : w.heap.size ≤ p'.b := h3
        omega
      · rw [← hbb] at h3; exact h2 h3
    rcases hfrom r p hp hv with ⟨hp0, hr0, _⟩ | ⟨p0, hp0, hv0, hb1, _⟩ <;> rcases hfrom r' p' hp' hv' with ⟨hp0', hr0', _⟩ | ⟨p0', hp0', hv0', hb1', _⟩
    · exact h.inj r r' p p' hp0 hp0' hv hv' hbb
    · exact absurd (hbb.trans hb1'.symm) (mixed r p r' p0' hp0 hv hr0 hp0' hv0')
    · exact absurd (hbb.symm.trans hb1.symm) (mixed r' p' r p0 hp0' hv' hr0' hp0 hv0)
    · exact hC.inj r r' p0 p0' hp0 hp0' hv0 hv0' (by rw [hb1, hb1', hbb])
  · exact hC.imm b (hI4 b hb)
  · rcases hI3 b hb with h1 | h1 | ⟨k, i, q, p, _, hp, hv, rfl⟩
    · exact h.iN b h1
    · exact .inr (.inl (Nat.le_trans h.grow h1))
    · exact .inr (h.own _ p hp hv).1
  · rw [hsame b (Nat.lt_of_lt_of_le hb1 h.grow) ?_]
    · exact h.same b hb1 hb2
    · rintro ⟨k, i, q, p, _, hp, hv, rfl⟩
      rcases (h.own _ p hp hv).1 with h1 | h1
      · omega
      · exact hb2 h1
  · have hrr := hC.env
    simp only [RepL] at hrr
    obtain ⟨y, tl, hy, hrep, _⟩ := hrr
    simp only [List.cons.injEq] at hy
    rw [hy.1]
    have one : ∀ (x : AV) (z : Value), x.okR1 ks ts fl b0 = true → Rep (rcW (statOf c.E c.S) I' L' w') L' x z → Rep (c.rc I'' L2 w') L2 (x.turn1 ks bs) z := by
      intro x z hx hz
      by_cases ho : ∃ t k i q lo n g, x = .lsl t (.o k i q) lo n g
      · obtain ⟨t, k, i, q, lo, n, g, rfl⟩ := ho
        simp only [AV.okR1, Bool.and_eq_true] at hx
        obtain ⟨⟨hkk, hq⟩, hg⟩ := hx
        have hkk := any_beq.1 hkk
        have hq : 0 < q := Nat.le_of_ble_eq_true hq
        have hg := Nat.eq_of_beq_eq_true hg
        obtain ⟨b, t', cs, l, l', gs, gt, g1, g2, g3, g3', g4, g5, g6⟩ := hk k hkk
        obtain ⟨j, t2, e1, e2, e3⟩ := genB_idx ks ts k q hkk (by omega)
        obtain ⟨j', b2, e1', e2', e3'⟩ := genB_idx ks bs k q hkk hlen
        have et : t2 = t' := by
          have := putK_at (c.E.kinds.map fun cs => some (tab0 cs)) ks ts j k t2 hnd (fun k hk => by simpa using hlt k hk) e1 e2
          rw [outH_tab (hlt k hkk)] at g4
          unfold entryH at g4
          rw [this] at g4
          injection g4 with g4
          injection g4
        have eb : b2 = b := by
          have := hb j' k b2 e1' e2'
          rw [g1] at this
          injection this with this
          injection this with this
          exact this.symm
        subst et; subst eb
        have e3 : genB ks ts k q = gt.getD q 0 := by rw [e3]; simp only [Blk.gq, g5]
        have e3' : genB ks bs k q = gs.getD q 0 := by rw [e3']; simp only [Blk.gq, g2]
        simp only [AV.turn1, Rep] at hz ⊢
        obtain ⟨p, hp, hw, hge, ad, cap, hv, hcap, hsome2, hcur⟩ := hz
        obtain ⟨_, _, hpg⟩ := slice_gen hC g4 g5 hp
        obtain ⟨hpg, _⟩ := hpg hq
        refine ⟨{ p with gen := gOf s.heap k q + 1 }, by rw [L2q k i q hkk hq, hp]; rfl, hw, ?_, ad, cap, hv, hcap, hsome2, fun _ => hcur (by rw [hpg, hg, e3])⟩
        rw [e3', ← hgk k q _ cs l gs g1 g2]
        exact Nat.le_refl _
      · have e1 : x.okR1 ks ts fl b0 = x.ok ks fl b0 8 := by
          unfold AV.okR1
          split
          · exact absurd ⟨_, _, _, _, _, _, _, rfl⟩ ho
          · rfl
        have e2 : x.turn1 ks bs = x := by
          unfold AV.turn1
          split
          · exact absurd ⟨_, _, _, _, _, _, _, rfl⟩ ho
          · rfl
        rw [e1] at hx
        rw [e2]
        exact Rep.to hcto hids 8 hx hz
    have many : ∀ (l : List AV) (ys : List Value), l.all (AV.okR1 ks ts fl b0) = true → RepL (rcW (statOf c.E c.S) I' L' w') L' l ys → RepL (c.rc I'' L2 w') L2 (l.map (AV.turn1 ks bs)) ys := by
      intro l
      induction l with
      | nil => intro ys _ hl; simpa only [List.map_nil, RepL] using hl
      | cons x l ih =>
        intro ys hrok hl
        simp only [List.all_cons, Bool.and_eq_true] at hrok
        simp only [List.map_cons, RepL] at hl ⊢
        obtain ⟨z, tl, rfl, hz, ht⟩ := hl
        exact ⟨z, tl, rfl, one x z hrok.1 hz, ih tl hrok.2 ht⟩
    by_cases ht : ∃ l, r = .tup l
    · obtain ⟨l, rfl⟩ := ht
      simp only [AV.okR] at hrok
      simp only [AV.turn, Rep] at hrep ⊢
      obtain ⟨cs, e, hl⟩ := hrep
      exact ⟨cs, e, many l _ hrok hl⟩
    · have e1 : r.okR ks ts fl b0 = r.okR1 ks ts fl b0 := by
        unfold AV.okR
        split
        · exact absurd ⟨_, rfl⟩ ht
        · rfl
      have e2 : r.turn ks bs = r.turn1 ks bs := by
        unfold AV.turn
        split
        · exact absurd ⟨_, rfl⟩ ht
        · rfl
      rw [e1] at hrok
      rw [e2]
      exact one r _ hrok hrep

end
end Go.Eng
