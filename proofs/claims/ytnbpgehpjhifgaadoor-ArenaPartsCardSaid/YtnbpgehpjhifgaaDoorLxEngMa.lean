/-
  The abstract machine, part 12a: slices of objects' own, written in place.
-/
import Derived.Test.YtnbpgehpjhifgaaDoorLxEngM
namespace Go.Eng

theorem slO_setO (want : Nat) (u : Ty) (y l : List (Val u)) : ∀ {cs : List Cell} {q : Nat} {x : Val (rowsTy cs)}, slO want cs q x = some ⟨u, l⟩ → slO want cs q (setO want u y cs q x) = some ⟨u, y⟩
  | [], _, _, h => by cases h
  | .d t :: r, q, x, h => by
    simp only [slO, setO] at h ⊢
    exact slO_setO want u y l h
  | .sl t :: r, q, x, h => by
    simp only [slO] at h
    simp only [slO, setO]
    split at h
    · rename_i hb
      simp only [Option.some.injEq, Sigma.mk.injEq] at h
      obtain ⟨rfl, _⟩ := h
      rw [dif_pos rfl]
      rfl
    · rename_i hb
      exact slO_setO want u y l h

theorem slO_setO_ne {want want' : Nat} (u : Ty) (y : List (Val u)) (hne : want' ≠ want) : ∀ {cs : List Cell} {q : Nat} {x : Val (rowsTy cs)}, slO want' cs q (setO want u y cs q x) = slO want' cs q x
  | [], _, _ => rfl
  | .d t :: r, q, x => by simp only [slO, setO]; exact slO_setO_ne u y hne
  | .sl t :: r, q, x => by
    simp only [slO, setO]
    cases hb : Nat.beq q want with
    | true =>
      have hq := Nat.eq_of_beq_eq_true hb
      have : Nat.beq q want' = false := by
        cases h2 : Nat.beq q want' with
        | true => exact absurd ((Nat.eq_of_beq_eq_true h2).symm.trans hq) hne
        | false => rfl
      rw [this]
    | false =>
      simp only
      cases h2 : Nat.beq q want' with
      | true => rfl
      | false => exact slO_setO_ne u y hne

/-- a slice is one that stands at or behind the first number -/
theorem slO_ge {want : Nat} : ∀ {cs : List Cell} {q : Nat} {x : Val (rowsTy cs)} {r : (t : Ty) × List (Val t)}, slO want cs q x = some r → q ≤ want
  | [], _, _, _, h => by cases h
  | .d t :: r, q, x, _, h => by simp only [slO] at h; exact slO_ge h
  | .sl t :: r, q, x, _, h => by
    simp only [slO] at h
    split at h
    · rename_i hb; exact Nat.le_of_eq (Nat.eq_of_beq_eq_true hb)
    · have := slO_ge h; omega

theorem setO_lt {want : Nat} (u : Ty) (y : List (Val u)) : ∀ {cs : List Cell} {q : Nat} {x : Val (rowsTy cs)}, want < q → setO want u y cs q x = x
  | [], _, _, _ => rfl
  | .d t :: r, q, x, h => by simp only [setO]; rw [setO_lt u y h]; rfl
  | .sl t :: r, q, x, h => by
    simp only [setO]
    have : Nat.beq q want = false := by
      cases h2 : Nat.beq q want with
      | true => have := Nat.eq_of_beq_eq_true h2; omega
      | false => rfl
    rw [setO_lt u y (by omega)]
    split
    · rename_i h2; rw [this] at h2; cases h2
    · rfl

theorem rowO_setO (k i : Nat) (st : Nat → Bool) (gs : List Nat) {want : Nat} (u : Ty) {y l : List (Val u)} (hl : y.length = l.length) : ∀ {cs : List Cell} {q : Nat} {x : Val (rowsTy cs)}, slO want cs q x = some ⟨u, l⟩ →
    rowO k i st gs cs q (setO want u y cs q x) = rowO k i st gs cs q x
  | [], _, _, h => by cases h
  | .d t :: r, q, x, h => by
    simp only [slO] at h
    simp only [rowO, setO]
    rw [rowO_setO k i st gs u hl h]
  | .sl t :: r, q, x, h => by
    simp only [slO] at h
    simp only [setO]
    split at h
    · rename_i hb
      simp only [Option.some.injEq, Sigma.mk.injEq] at h
      obtain ⟨rfl, hx⟩ := h
      have hx := eq_of_heq hx
      rw [dif_pos rfl]
      show (match st q with | true => AV.top | false => .lsl _ (.o k i q) 0 (List.length y) (gs.getD q 0)) :: _ = (match st q with | true => AV.top | false => .lsl _ (.o k i q) 0 (List.length x.1) (gs.getD q 0)) :: _
      rw [hl, ← hx]
    · rename_i hb
      show (match st q with | true => AV.top | false => .lsl _ (.o k i q) 0 (List.length x.1) (gs.getD q 0)) :: rowO k i st gs r (q + 1) (setO want u y r (q + 1) x.2) = (match st q with | true => AV.top | false => .lsl _ (.o k i q) 0 (List.length x.1) (gs.getD q 0)) :: rowO k i st gs r (q + 1) x.2
      rw [rowO_setO k i st gs u hl h]

section
variable {c : Ctx} {I : Nat → Prop} {L : Ref → Option Pl} {s : St} {a : Act} {w : World} {call : CallF}

theorem rdv_o {h : List (Option Blk)} {k i q : Nat} {b : Blk} : rdv h (.o k i q) = some b ↔ ∃ tb cs l st gs, h[k]? = some (some tb) ∧ tb.ct = .tab cs l st gs ∧ i < l.length ∧ viewV k i cs (l.getD i (dfl (rowsTy cs))) st gs q = some b := by
  constructor
  · intro h
    simp only [rdv] at h
    split at h
    · rename_i tb htb
      split at h
      · rename_i cs l st gs hct
        split at h
        · rename_i hlt
          exact ⟨tb, cs, l, st, gs, htb, hct, hlt, h⟩
        · cases h
      · cases h
    · cases h
  · rintro ⟨tb, cs, l, st, gs, htb, hct, hlt, hv⟩
    simp only [rdv, htb, hct, hlt, if_true]
    exact hv

theorem rdH_o {h : List (Option Blk)} {k i q : Nat} {b : Blk} (e : rdH h (.o k i q) = some b) : ∃ tb cs l st gs, h[k]? = some (some tb) ∧ tb.ct = .tab cs l st gs ∧ viewO k i cs l st gs q = some b := by
  simp only [rdH] at e
  split at e
  · rename_i tb htb
    split at e
    · rename_i cs l st gs hct
      exact ⟨tb, cs, l, st, gs, htb, hct, e⟩
    · cases e
  · cases e

theorem getD_sets {α : Type} {l : List α} {i : Nat} {x d : α} (h : i < l.length) : (l.set i x).getD i d = x := by
  rw [List.getD_eq_getElem?_getD, List.getElem?_set_self h]; rfl
theorem getD_setn {α : Type} {l : List α} {i j : Nat} {x d : α} (h : i ≠ j) : (l.set i x).getD j d = l.getD j d := by
  rw [List.getD_eq_getElem?_getD, List.getD_eq_getElem?_getD, List.getElem?_set_ne h]

/-- A slice's elements are written, in place. -/
theorem Sim.updIn (h : Sim c I L s a w) {r : Ref} {p : Pl} {b : Blk} {t : Ty} {l l' : List (Val t)} {w' : World} (hp : L r = some p) (hb : s.rd r = some b) (hct : b.ct = .sl t l) (hlen : l'.length = l.length)
    (hs : w'.heap.size = w.heap.size) (hio : IO w w') (hw : ∀ k, (p.virt = false → k ≠ p.b) → w'.heap[k]? = w.heap[k]?) (hnI : p.virt = false → ¬ I p.b) (hfz : b.frozen = false)
    (hk : RLe (c.rc I L w) (c.rc I L w') → BlkOK (c.rc I L w') L w' p { b with ct := .sl t l' }) : Sim c I L ⟨s.env, putH s.heap r { b with ct := .sl t l' }⟩ a w' := by
  have hoth : ∀ i q, i ≠ r → L i = some q → q.virt = false → w'.heap[q.b]? = w.heap[q.b]? := by
    intro i q e hq hqv
    exact hw _ fun hv hbb => e (h.inj i r q p hq hp hqv hv hbb)
  -- what is read then
  have key : ∀ r', (r' = r ∧ rdv (putH s.heap r { b with ct := .sl t l' }) r' = some { b with ct := .sl t l' }) ∨ (r' ≠ r ∧ rdv (putH s.heap r { b with ct := .sl t l' }) r' = rdv s.heap r') ∨
      (r' ≠ r ∧ ∃ tb tb', rdv s.heap r' = some tb ∧ rdv (putH s.heap r { b with ct := .sl t l' }) r' = some tb' ∧ tb'.gen = tb.gen ∧ tb'.frozen = tb.frozen ∧ tb.isTab = true ∧ tb'.isTab = true) := by
    intro r'
    cases r with
    | l id =>
      have hb' := rdv_l.1 (show rdv s.heap (.l id) = some b from hb)
      have hlt : id < s.heap.length := (List.getElem?_eq_some_iff.1 hb').1
      simp only [putH]
      by_cases e : r' = .l id
      · subst e
        exact .inl ⟨rfl, rdv_set_self hlt⟩
      · refine .inr (.inl ⟨e, rdv_set (fun x hx => ?_) (fun x hx => ?_) e⟩)
        · rw [hb'] at hx
          injection hx with hx
          injection hx with hx
          subst hx
          simp [Blk.isTab, hct]
        · injection hx with hx
          subst hx
          rfl
    | o k i q =>
      obtain ⟨bb, hbb⟩ := h.dom _ p hp
      obtain ⟨tb, cs, rows, st, gs, htb, htct, hview⟩ := rdH_o hb
      obtain ⟨tb2, cs2, rows2, st2, gs2, htb2, htct2, hlt, hview2⟩ := rdv_o.1 hbb
      rw [htb] at htb2
      injection htb2 with htb2
      injection htb2 with htb2
      subst htb2
      rw [htct] at htct2
      injection htct2 with e1 e2 e3 e4
      subst e1
      have e2 := eq_of_heq e2
      subst e2 e3 e4
      have hkl : k < s.heap.length := (List.getElem?_eq_some_iff.1 htb).1
      cases q with
      | zero => simp only [viewO, Option.some.injEq] at hview; subst hview; cases hct
      | succ q =>
        simp only [viewO] at hview
        split at hview
        · cases hview
        rename_i hns
        have hnm : ¬ ((q + 1, i) ∈ st) := fun hm => by rw [stale_mem hm] at hns; cases hns
        split at hview
        rotate_left
        · cases hview
        rename_i t0 y0 hsl
        simp only [Option.some.injEq] at hview
        subst hview
        simp only [Ct.sl.injEq] at hct
        obtain ⟨rfl, hct⟩ := hct
        have hct := eq_of_heq hct
        subst hct
        have hput : putH s.heap (.o k i (q + 1)) { ct := .sl t0 l', gen := gs.getD (q + 1) 0, frozen := false } = s.heap.set k (some { tb with ct := .tab cs (rows.set i (setO (q + 1) t0 l' cs 1 (rows.getD i (dfl (rowsTy cs))))) st gs }) := by
          simp only [putH, htb, htct]
        simp only
        rw [hput]
        by_cases e : r' = .o k i (q + 1)
        · subst e
          refine .inl ⟨rfl, rdv_o.2 ⟨_, cs, _, st, gs, List.getElem?_set_self hkl, rfl, by simpa using hlt, ?_⟩⟩
          rw [getD_sets hlt]
          simp only [viewV, slO_setO (q + 1) t0 l' y0 hsl, if_neg hnm]
        · cases r' with
          | l id =>
            by_cases hid : k = id
            · subst hid
              exact .inr (.inr ⟨e, tb, _, rdv_l.2 htb, rdv_set_self hkl, rfl, rfl, by simp [Blk.isTab, htct], rfl⟩)
            · refine .inr (.inl ⟨e, ?_⟩)
              simp only [rdv, List.getElem?_set_ne hid]
          | o k' i' q' =>
            refine .inr (.inl ⟨e, ?_⟩)
            by_cases hkk : k = k'
            · subst hkk
              simp only [rdv, List.getElem?_set_self hkl, htb, htct, List.length_set]
              by_cases hii : i = i'
              · subst hii
                simp only [hlt, if_true]
                rw [getD_sets hlt]
                cases q' with
                | zero => simp only [viewV]; rw [rowO_setO k i _ gs t0 hlen hsl]
                | succ q' =>
                  have hqq : q' + 1 ≠ q + 1 := fun hq => e (by rw [hq])
                  simp only [viewV]
                  rw [slO_setO_ne t0 l' hqq]
              · split
                · rw [getD_setn hii]
                · rfl
            · simp only [rdv, List.getElem?_set_ne hkk]
  refine h.turn (LLe.refl L) (by rw [hs]; exact Nat.le_refl _) hio (fun x _ hor => ?_) (fun hr i x hix => ?_) (fun i q hq => ?_) (fun i q hq hqv => ?_) h.inj
  · refine hw x fun hv hx => ?_
    rcases hor with hI | hne
    · rw [hx] at hI; exact hnI hv hI
    · exact hne r p hp hv hx.symm
  · rcases key i with ⟨rfl, e⟩ | ⟨hne, e⟩ | ⟨hne, tb, tb', h1, h2, h3, h4, h5, h6⟩
    · rw [e] at hix
      injection hix with hix
      subst hix
      exact ⟨p, hp, hk hr, fun _ => hnI⟩
    · rw [e] at hix
      obtain ⟨q, hq, hqk, hqf⟩ := h.blk i x hix
      exact ⟨q, hq, hqk.mono hr (LLe.refl L) (fun hqv => hoth i q hne hq hqv) (fun hqv o => cell?_heap _ _ (hoth i q hne hq hqv)), hqf⟩
    · rw [h2] at hix
      injection hix with hix
      subst hix
      obtain ⟨q, hq, hqk, hqf⟩ := h.blk i tb h1
      refine ⟨q, hq, ?_, fun hz => hqf (by rw [← h4]; exact hz)⟩
      unfold Blk.isTab at h5 h6
      split at h5
      · rename_i hc5
        split at h6
        · rename_i hc6
          unfold BlkOK at hqk ⊢
          rw [hc5] at hqk
          rw [hc6]
          exact ⟨by rw [h3]; exact hqk.1, hqk.2⟩
        · cases h6
      · cases h5
  · obtain ⟨x, hx⟩ := h.dom i q hq
    rcases key i with ⟨rfl, e⟩ | ⟨hne, e⟩ | ⟨hne, tb, tb', h1, h2, _⟩
    · exact ⟨_, e⟩
    · exact ⟨x, by rw [e]; exact hx⟩
    · exact ⟨_, h2⟩
  · have := h.own i q hq hqv
    exact ⟨by rw [hs]; exact this.2, .inr ⟨i, q, hq, hqv, rfl⟩⟩

/-- A slice of an object's own is taken away from it. -/
theorem Sim.detach (h : Sim c I L s a w) {k i q newId : Nat} {p : Pl} {b tb : Blk} {t : Ty} {l : List (Val t)} {cs : List Cell} {rows : List (Val (rowsTy cs))} {st : List (Nat × Nat)} {gs : List Nat} (hp : L (.o k i q) = some p) (hb : s.rd (.o k i q) = some b) (hct : b.ct = .sl t l)
    (htb : s.rd (.l k) = some tb) (htct : tb.ct = .tab cs rows st gs) (hn : s.heap[newId]? = some none) :
    Sim c I (addL (addL L (.o k i q) { p with gen := p.gen + 1, virt := true }) (.l newId) { p with gen := 0 })
      ⟨s.env, (s.heap.set k (some { tb with ct := .tab cs rows ((q, i) :: st) gs })).set newId (some { ct := .sl t l, gen := 0, frozen := false })⟩ a w := by
  have htb' := rdv_l.1 (show rdv s.heap (.l k) = some tb from htb)
  obtain ⟨⟨hpg, hk⟩, hf⟩ := h.get hp hb
  rw [hct] at hk
  obtain ⟨bb, hbb⟩ := h.dom _ p hp
  obtain ⟨tb1, cs1, rows1, st1, gs1, h1, h2, hview⟩ := rdH_o hb
  obtain ⟨tb2, cs2, rows2, st2, gs2, h3, h4, hlt, hview2⟩ := rdv_o.1 hbb
  rw [htb'] at h1 h3
  injection h1 with h1; injection h1 with h1; subst h1
  injection h3 with h3; injection h3 with h3; subst h3
  rw [htct] at h2 h4
  injection h2 with e1 e2 e3 e4; subst e1; have e2 := eq_of_heq e2; subst e2 e3 e4
  injection h4 with e1 e2 e3 e4; subst e1; have e2 := eq_of_heq e2; subst e2 e3 e4
  have hkl : k < s.heap.length := (List.getElem?_eq_some_iff.1 htb').1
  have hnk : newId ≠ k := by
    intro e
    rw [e, htb'] at hn
    injection hn with hn
    cases hn
  have hnl : newId < s.heap.length := (List.getElem?_eq_some_iff.1 hn).1
  have hLn : L (.l newId) = none := by
    cases hl : L (.l newId) with
    | none => rfl
    | some p =>
      obtain ⟨b, hb⟩ := h.dom _ p hl
      have hb := rdv_l.1 hb
      rw [hn] at hb
      injection hb with hb
      cases hb
  cases q with
  | zero => simp only [viewO, Option.some.injEq] at hview; subst hview; cases hct
  | succ q =>
  simp only [viewO] at hview
  split at hview
  · cases hview
  rename_i hns
  have hnm : ¬ ((q + 1, i) ∈ st) := fun hm => by rw [stale_mem hm] at hns; cases hns
  split at hview
  rotate_left
  · cases hview
  rename_i t0 y0 hsl
  simp only [Option.some.injEq] at hview
  subst hview
  simp only [Ct.sl.injEq] at hct
  obtain ⟨rfl, hct⟩ := hct
  have hct := eq_of_heq hct
  subst hct
  obtain ⟨hp', hhp'⟩ : ∃ hp', hp' = (s.heap.set k (some { tb with ct := .tab cs rows ((q + 1, i) :: st) gs })).set newId (some { ct := .sl t0 y0, gen := 0, frozen := false }) := ⟨_, rfl⟩
  rw [← hhp']
  -- what is read then
  have r1 : rdv hp' (.l newId) = some { ct := .sl t0 y0, gen := 0, frozen := false } := by
    rw [hhp', rdv_l, List.getElem?_set_self (by simpa using hnl)]
  have r2 : rdv hp' (.o k i (q + 1)) = some { ct := .sl t0 [], gen := gs.getD (q + 1) 0 + 1, frozen := false } := by
    refine rdv_o.2 ⟨{ tb with ct := .tab cs rows ((q + 1, i) :: st) gs }, cs, rows, _, gs, ?_, rfl, hlt, ?_⟩
    · rw [hhp', List.getElem?_set_ne hnk, List.getElem?_set_self hkl]
    · simp only [viewV, hsl, List.mem_cons, true_or, if_true]
  have r3 : rdv hp' (.l k) = some { tb with ct := .tab cs rows ((q + 1, i) :: st) gs } := by
    rw [hhp', rdv_l, List.getElem?_set_ne hnk, List.getElem?_set_self hkl]
  have r4 : ∀ r, r ≠ .l newId → r ≠ .o k i (q + 1) → r ≠ .l k → r ≠ .o k i 0 → rdv hp' r = rdv s.heap r := by
    intro r n1 n2 n3 n4
    cases r with
    | l id =>
      have g1 : newId ≠ id := fun e => n1 (by rw [e])
      have g2 : k ≠ id := fun e => n3 (by rw [e])
      simp only [rdv, hhp', List.getElem?_set_ne g1, List.getElem?_set_ne g2]
    | o k' i' q' =>
      by_cases hkk : k = k'
      · subst hkk
        have h0 : hp'[k]? = some (some { tb with ct := .tab cs rows ((q + 1, i) :: st) gs }) := rdv_l.1 r3
        simp only [rdv, h0, htb', htct]
        split
        · cases q' with
          | zero =>
            have hii : i' ≠ i := fun e => n4 (by rw [e])
            have : (fun q0 => decide ((q0, i') ∈ (q + 1, i) :: st)) = (fun q0 => decide ((q0, i') ∈ st)) := by
              funext q0
              simp [hii]
            simp only [viewV, this]
          | succ q' =>
            have hne : ¬ ((q' + 1, i') = (q + 1, i)) := fun e => by
              injection e with e1 e2
              exact n2 (by rw [e1, e2])
            simp only [viewV, List.mem_cons, hne, false_or]
        · rfl
      · by_cases hnk' : newId = k'
        · subst hnk'
          simp only [rdv, hhp', List.getElem?_set_self (show newId < (s.heap.set k _).length by simpa using hnl), hn]
        · simp only [rdv, hhp', List.getElem?_set_ne hnk', List.getElem?_set_ne hkk]
  have r5 : rdv hp' (.o k i 0) = some { ct := .box (rowO k i (fun q0 => decide ((q0, i) ∈ (q + 1, i) :: st)) gs cs 1 (rows.getD i (dfl (rowsTy cs)))), gen := 0, frozen := false } :=
    rdv_o.2 ⟨{ tb with ct := .tab cs rows ((q + 1, i) :: st) gs }, cs, rows, _, gs, rdv_l.1 r3, rfl, hlt, rfl⟩
  have r6 : rdv s.heap (.o k i 0) = some { ct := .box (rowO k i (fun q0 => decide ((q0, i) ∈ st)) gs cs 1 (rows.getD i (dfl (rowsTy cs)))), gen := 0, frozen := false } :=
    rdv_o.2 ⟨tb, cs, rows, _, gs, htb', htct, hlt, rfl⟩
  have hgen : p.gen = gs.getD (q + 1) 0 := hpg
  have hl : LLe L (addL (addL L (.o k i (q + 1)) { p with gen := p.gen + 1, virt := true }) (.l newId) { p with gen := 0 }) := by
    refine LLe.trans (addL_le (id := .o k i (q + 1)) (p := { p with gen := p.gen + 1, virt := true }) (fun x hx => ?_) (fun hb => hb)) (addL_le (fun x hx => ?_) (fun hb => hb))
    · rw [hp] at hx
      injection hx with hx
      subst hx
      exact ⟨rfl, Nat.lt_succ_self _⟩
    · simp only [addL, hLn] at hx
      cases hx
  have aL : ∀ r, r ≠ .l newId → r ≠ .o k i (q + 1) → addL (addL L (.o k i (q + 1)) { p with gen := p.gen + 1, virt := true }) (.l newId) { p with gen := 0 } r = L r := by
    intro r n1 n2
    simp only [addL, if_neg n1, if_neg n2]
  have aL1 : addL (addL L (.o k i (q + 1)) { p with gen := p.gen + 1, virt := true }) (.l newId) { p with gen := 0 } (.l newId) = some { p with gen := 0 } := by simp [addL]
  have aL2 : addL (addL L (.o k i (q + 1)) { p with gen := p.gen + 1, virt := true }) (.l newId) { p with gen := 0 } (.o k i (q + 1)) = some { p with gen := p.gen + 1, virt := true } := by simp [addL]
  generalize addL (addL L (.o k i (q + 1)) { p with gen := p.gen + 1, virt := true }) (.l newId) { p with gen := 0 } = L' at *
  refine h.turn hl (Nat.le_refl _) (IO.refl w) (fun _ _ _ => rfl) (fun hr r x hx => ?_) (fun r x hx => ?_) (fun r x hx hv => ?_) (fun r r' x x' hx hx' hv hv' hbb => ?_)
  · have mono : ∀ {p : Pl} {x : Blk}, BlkOK (c.rc I L w) L w p x → BlkOK (c.rc I L' w) L' w p x := fun hk => hk.mono hr hl (fun _ => rfl) (fun _ _ => rfl)
    by_cases n1 : r = .l newId
    · subst n1
      rw [r1] at hx
      injection hx with hx
      subst hx
      refine ⟨_, aL1, ?_, fun _ => hf rfl⟩
      have := mono (p := p) (x := { ct := .sl t0 y0, gen := gs.getD (q + 1) 0, frozen := false }) ⟨hpg, hk⟩
      exact ⟨rfl, this.2⟩
    by_cases n2 : r = .o k i (q + 1)
    · subst n2
      rw [r2] at hx
      injection hx with hx
      subst hx
      refine ⟨_, aL2, ⟨by rw [← hgen], .inl ⟨rfl, rfl, ?_⟩⟩, fun _ hv => by cases hv⟩
      rcases hk with ⟨_, _, h1⟩ | ⟨_, h1, _⟩
      · exact h1
      · exact h1
    rw [aL r n1 n2]
    by_cases n3 : r = .l k
    · subst n3
      rw [r3] at hx
      injection hx with hx
      subst hx
      obtain ⟨p1, hp1, hk1, hf1⟩ := h.blk (.l k) tb htb
      refine ⟨p1, hp1, ?_, hf1⟩
      unfold BlkOK at hk1 ⊢
      rw [htct] at hk1
      exact hk1
    by_cases n4 : r = .o k i 0
    · subst n4
      rw [r5] at hx
      injection hx with hx
      subst hx
      obtain ⟨p1, hp1, hk1, hf1⟩ := h.blk _ _ r6
      refine ⟨p1, hp1, ?_, hf1⟩
      obtain ⟨g1, g2, g3, cc, T, g4, g5⟩ := mono hk1
      exact ⟨g1, g2, g3, cc, T, g4, rowO_weak (fun q0 hq0 => by simp only [decide_eq_true_eq, List.mem_cons] at hq0 ⊢; exact .inr hq0) g5⟩
    rw [r4 r n1 n2 n3 n4] at hx
    obtain ⟨p1, hp1, hk1, hf1⟩ := h.blk _ _ hx
    exact ⟨p1, hp1, mono hk1, hf1⟩
  · by_cases n1 : r = .l newId
    · subst n1; exact ⟨_, r1⟩
    by_cases n2 : r = .o k i (q + 1)
    · subst n2; exact ⟨_, r2⟩
    by_cases n3 : r = .l k
    · subst n3; exact ⟨_, r3⟩
    by_cases n4 : r = .o k i 0
    · subst n4; exact ⟨_, r5⟩
    rw [aL r n1 n2] at hx
    rw [r4 r n1 n2 n3 n4]
    exact h.dom r x hx
  · by_cases n1 : r = .l newId
    · subst n1
      rw [aL1] at hx
      injection hx with hx
      subst hx
      exact ⟨(h.own _ p hp hv).2, .inr ⟨_, p, hp, hv, rfl⟩⟩
    by_cases n2 : r = .o k i (q + 1)
    · subst n2
      rw [aL2] at hx
      injection hx with hx
      subst hx
      cases hv
    rw [aL r n1 n2] at hx
    exact ⟨(h.own r x hx hv).2, .inr ⟨r, x, hx, hv, rfl⟩⟩
  · have key : ∀ r x, r ≠ .l newId → L' r = some x → x.virt = false → p.virt = false → x.b ≠ p.b := by
      intro r x n1 hx hv hpv hbb
      by_cases n2 : r = .o k i (q + 1)
      · subst n2
        rw [aL2] at hx
        injection hx with hx
        subst hx
        cases hv
      rw [aL r n1 n2] at hx
      exact n2 (h.inj r _ x p hx hp hv hpv hbb)
    by_cases n1 : r = .l newId <;> by_cases n1' : r' = .l newId
    · rw [n1, n1']
    · subst n1
      rw [aL1] at hx
      injection hx with hx
      subst hx
      exact absurd hbb.symm (key r' x' n1' hx' hv' hv)
    · subst n1'
      rw [aL1] at hx'
      injection hx' with hx'
      subst hx'
      exact absurd hbb (key r x n1 hx hv hv')
    · by_cases n2 : r = .o k i (q + 1)
      · subst n2
        rw [aL2] at hx
        injection hx with hx
        subst hx
        cases hv
      by_cases n2' : r' = .o k i (q + 1)
      · subst n2'
        rw [aL2] at hx'
        injection hx' with hx'
        subst hx'
        cases hv'
      rw [aL r n1 n2] at hx
      rw [aL r' n1' n2'] at hx'
      exact h.inj r r' x x' hx hx' hv hv' hbb

end
end Go.Eng
