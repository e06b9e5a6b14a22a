/-
  The abstract machine, part 19: regions in any order.
-/
import Derived.Test.YtnbpgehpjhifgaaDoorLxEngS
namespace Go.Eng

/-! What is ahead of what. -/

inductive Ahead (ops : List Oper) : Nat → Nat → Prop where
  | one {j : Nat} {o : Oper} {e : Edge} : ops[j]? = some o → e ∈ o.after.toList → Region.binds .any e = true → Ahead ops e.on j
  | more {i j : Nat} {o : Oper} {e : Edge} : ops[j]? = some o → e ∈ o.after.toList → Region.binds .any e = true → Ahead ops i e.on → Ahead ops i j

theorem maskOf_sound {ops : List Oper} {acc : List Nat} (ha : ∀ j i, j < acc.length → (acc.getD j 0).testBit i = true → Ahead ops i j) {j : Nat} {o : Oper} (ho : ops[j]? = some o) :
    ∀ (es : List Edge), (∀ e, e ∈ es → e ∈ o.after.toList) → ∀ i, (maskOf acc es).testBit i = true → Ahead ops i j
  | [], _, i, h => by simp [maskOf] at h
  | e :: r, hm, i, h => by
    simp only [maskOf] at h
    split at h
    · rename_i hb
      simp only [Nat.testBit_or, Bool.or_eq_true] at h
      rcases h with (h | h) | h
      · rcases Nat.lt_or_ge e.on acc.length with hl | hl
        · exact .more ho (hm e (by simp)) hb (ha _ _ hl h)
        · rw [List.getD_eq_getElem?_getD, List.getElem?_eq_none hl] at h
          simp at h
      · rw [Nat.one_shiftLeft, Nat.testBit_two_pow] at h
        have := of_decide_eq_true h
        subst this
        exact .one ho (hm e (by simp)) hb
      · exact maskOf_sound ha ho r (fun e he => hm e (by simp [he])) i h
    · exact maskOf_sound ha ho r (fun e he => hm e (by simp [he])) i h

theorem masks_sound {ops : List Oper} : ∀ (os : List Oper) (acc : List Nat), os = ops.drop acc.length → (∀ j i, j < acc.length → (acc.getD j 0).testBit i = true → Ahead ops i j) →
    ∀ j i, ((masks os acc).getD j 0).testBit i = true → Ahead ops i j
  | [], acc, _, ha, j, i, h => by
    simp only [masks] at h
    rcases Nat.lt_or_ge j acc.length with hl | hl
    · exact ha j i hl h
    · rw [List.getD_eq_getElem?_getD, List.getElem?_eq_none hl] at h
      simp at h
  | o :: r, acc, hos, ha, j, i, h => by
    simp only [masks] at h
    have hoi : ops[acc.length]? = some o := by
      have h0 : (ops.drop acc.length)[0]? = some o := by rw [← hos]; rfl
      rw [List.getElem?_drop] at h0
      exact h0
    refine masks_sound r _ ?_ ?_ j i h
    · rw [List.length_append, List.length_singleton, ← List.tail_drop, ← hos]
      rfl
    · intro j i hj hb
      simp only [List.length_append, List.length_singleton] at hj
      rw [List.getD_eq_getElem?_getD] at hb
      rcases Nat.lt_or_ge j acc.length with hl | hl
      · rw [List.getElem?_append_left hl, ← List.getD_eq_getElem?_getD] at hb
        exact ha j i hl hb
      · have : j = acc.length := by omega
        subst this
        simp only [List.getElem?_append_right (Nat.le_refl _), Nat.sub_self, List.getElem?_cons_zero, Option.getD_some] at hb
        exact maskOf_sound ha hoi _ (fun _ h => h) i hb

/-- done are only such as all that binds them is done -/
def Closed (ops : List Oper) (p : Nat → Bool) : Prop := ∀ j o, ops[j]? = some o → p j = true → ∀ e, e ∈ o.after.toList → Region.binds .any e = true → p e.on = true

theorem Ahead.closed {ops : List Oper} {p : Nat → Bool} (hc : Closed ops p) {i j : Nat} (h : Ahead ops i j) : p j = true → p i = true := by
  induction h with
  | one ho he hb => exact fun hp => hc _ _ ho hp _ he hb
  | more ho he hb _ ih => exact fun hp => ih (hc _ _ ho hp _ he hb)

theorem Ahead.ready {ops : List Oper} {p : Nat → Bool} (hc : Closed ops p) {i j : Nat} (h : Ahead ops i j) (hr : ∀ o, ops[j]? = some o → ∀ e, e ∈ o.after.toList → Region.binds .any e = true → p e.on = true) : p i = true := by
  cases h with
  | one ho he hb => exact hr _ ho _ he hb
  | more ho he hb h => exact h.closed hc (hr _ ho _ he hb)

/-! The state where some of the operations are done. -/

def dstOf (ops : List Oper) (j : Nat) : Option Tmp := (ops[j]?).bind (·.dst)

def part (ops : List Oper) (D : Nat → Dl) (s0 : St) (p : Nat → Bool) : Nat → St
  | 0 => s0
  | n + 1 => match p n with
    | true => (part ops D s0 p n).app (dstOf ops n) (D n)
    | false => part ops D s0 p n

section
variable {ops : List Oper} {D : Nat → Dl} {s0 : St}

theorem putD_length (env : List AV) (d : Option Tmp) (x : AV) : (putD env d x).length = env.length := by cases d <;> simp [putD]

theorem part_env_length (p : Nat → Bool) : ∀ n, (part ops D s0 p n).env.length = s0.env.length
  | 0 => rfl
  | n + 1 => by
    simp only [part]
    split
    · simp only [St.app, putD_length]; exact part_env_length p n
    · exact part_env_length p n

theorem part_heap_length (p : Nat → Bool) : ∀ n, (part ops D s0 p n).heap.length = s0.heap.length
  | 0 => rfl
  | n + 1 => by
    simp only [part]
    split
    · simp only [St.app, putAll_length]; exact part_heap_length p n
    · exact part_heap_length p n

theorem putD_get (env : List AV) (d : Option Tmp) (x : AV) (k : Nat) : (putD env d x)[k]? = if d = some k ∧ k < env.length then some x else env[k]? := by
  cases d with
  | none => simp [putD]
  | some d =>
    simp only [putD, Option.some.injEq, List.getElem?_set]
    by_cases h : d = k
    · subst h
      by_cases hl : d < env.length <;> simp [hl]
    · simp [h]

theorem part_env {p q : Nat → Bool} {d : Nat} : ∀ n, (∀ j, j < n → dstOf ops j = some d → p j = q j) → (part ops D s0 p n).env[d]? = (part ops D s0 q n).env[d]?
  | 0, _ => rfl
  | n + 1, h => by
    have ih := part_env n fun j hj => h j (by omega)
    have key : ∀ (r : Nat → Bool), (part ops D s0 r (n + 1)).env[d]? = if r n = true ∧ dstOf ops n = some d ∧ d < s0.env.length then some (D n).x else (part ops D s0 r n).env[d]? := by
      intro r
      simp only [part]
      split
      · rename_i hr
        simp only [St.app, putD_get, part_env_length, hr, true_and]
      · rename_i hr
        simp [hr]
    rw [key p, key q, ih]
    by_cases hd : dstOf ops n = some d
    · rw [h n (by omega) hd]
    · simp [hd]

theorem putH_congr {h h' : List (Option Blk)} {r : Ref} {b : Blk} {id : Nat} (hl : h.length = h'.length) (e : h[id]? = h'[id]?) : (putH h r b)[id]? = (putH h' r b)[id]? := by
  by_cases hid : id = r.ix
  · subst hid
    cases r with
    | l n => simp only [putH, Ref.ix, List.getElem?_set, hl] at e ⊢; simp [e]
    | o k i q =>
      simp only [Ref.ix] at e ⊢
      simp only [putH]
      rw [← e]
      split
      · split
        · simp only [List.getElem?_set, hl]
          split
          · rfl
          · exact e
        · exact e
      · exact e
  · rw [putH_other hid, putH_other hid]
    exact e

theorem putAll_congr : ∀ (wr : List (Ref × Blk)) {h h' : List (Option Blk)} {id : Nat}, h.length = h'.length → h[id]? = h'[id]? → (putAll h wr)[id]? = (putAll h' wr)[id]?
  | [], _, _, _, _, e => e
  | (i, b) :: r, h, h', id, hl, e => by
    simp only [putAll]
    exact putAll_congr r (by rw [putH_length, putH_length, hl]) (putH_congr hl e)

theorem part_heap {p q : Nat → Bool} {id : Nat} : ∀ n, (∀ j, j < n → id ∈ (D j).wr.map (·.1.ix) → p j = q j) → (part ops D s0 p n).heap[id]? = (part ops D s0 q n).heap[id]?
  | 0, _ => rfl
  | n + 1, h => by
    have ih := part_heap n fun j hj => h j (by omega)
    by_cases hm : id ∈ (D n).wr.map (·.1.ix)
    · have hpq := h n (by omega) hm
      simp only [part]
      rw [hpq]
      split
      · simp only [St.app]
        exact putAll_congr _ (by rw [part_heap_length, part_heap_length]) ih
      · exact ih
    · have key : ∀ (r : Nat → Bool), (part ops D s0 r (n + 1)).heap[id]? = (part ops D s0 r n).heap[id]? := by
        intro r
        simp only [part]
        split
        · simp only [St.app]; exact putAll_other _ _ _ hm
        · rfl
      rw [key p, key q, ih]

theorem set_putH {h : List (Option Blk)} {i : Nat} {b : Option Blk} {r : Ref} {x : Blk} (hn : i ≠ r.ix) : putH (h.set i b) r x = (putH h r x).set i b := by
  cases r with
  | l n => simp only [putH]; exact List.set_comm _ _ hn
  | o k j q =>
    have hn : i ≠ k := hn
    simp only [putH, List.getElem?_set_ne hn]
    split
    · split
      · exact List.set_comm _ _ hn
      · rfl
    · rfl

theorem set_putAll : ∀ (wr : List (Ref × Blk)) (h : List (Option Blk)) (i : Nat) (b : Option Blk), i ∉ wr.map (·.1.ix) → putAll (h.set i b) wr = (putAll h wr).set i b
  | [], _, _, _, _ => rfl
  | (k, x) :: r, h, i, b, hn => by
    simp only [List.map_cons, List.mem_cons, not_or] at hn
    simp only [putAll]
    rw [set_putH hn.1, set_putAll r _ i b hn.2]

theorem putH_putAll {wr : List (Ref × Blk)} {h : List (Option Blk)} {r : Ref} {x : Blk} (hn : r.ix ∉ wr.map (·.1.ix)) : putAll (putH h r x) wr = putH (putAll h wr) r x := by
  cases r with
  | l n => simp only [putH]; exact set_putAll wr h n _ hn
  | o k i q =>
    have hk : (putAll h wr)[k]? = h[k]? := putAll_other wr h k hn
    simp only [putH, hk]
    split
    · split
      · exact set_putAll wr h k _ hn
      · rfl
    · rfl

theorem putAll_comm : ∀ (wr wr' : List (Ref × Blk)) (h : List (Option Blk)), (∀ id, id ∈ wr.map (·.1.ix) → id ∉ wr'.map (·.1.ix)) → putAll (putAll h wr) wr' = putAll (putAll h wr') wr
  | [], _, _, _ => rfl
  | (k, x) :: r, wr', h, hd => by
    simp only [putAll]
    rw [putAll_comm r wr' _ (fun id hid => hd id (by simp at hid ⊢; exact .inr hid)), putH_putAll (hd k.ix (by simp))]

theorem putD_comm (env : List AV) (d e : Option Tmp) (x y : AV) (h : ∀ k, d = some k → e ≠ some k) : putD (putD env d x) e y = putD (putD env e y) d x := by
  cases d with
  | none => rfl
  | some d =>
    cases e with
    | none => rfl
    | some e =>
      have : d ≠ e := fun he => h d rfl (by rw [he])
      simp only [putD]
      exact List.set_comm _ _ this

theorem St.app_comm (s : St) (d e : Option Tmp) (x y : Dl) (h : ∀ k, d = some k → e ≠ some k) (hw : ∀ id, id ∈ x.wr.map (·.1.ix) → id ∉ y.wr.map (·.1.ix)) : (s.app d x).app e y = (s.app e y).app d x := by
  simp only [St.app, putD_comm _ _ _ _ _ h, putAll_comm _ _ _ hw]

theorem part_same {p q : Nat → Bool} : ∀ n, (∀ j, j < n → p j = q j) → part ops D s0 p n = part ops D s0 q n
  | 0, _ => rfl
  | n + 1, h => by simp only [part]; rw [h n (by omega), part_same n fun j hj => h j (by omega)]

/-- one more is done -/
theorem part_more {p q : Nat → Bool} {i : Nat} (hi : p i = false) (hq : q i = true) (hne : ∀ j, j ≠ i → q j = p j) : ∀ n, i < n → (∀ j, i < j → j < n → p j = true → (∀ k, dstOf ops i = some k → dstOf ops j ≠ some k) ∧ ∀ id, id ∈ (D i).wr.map (·.1.ix) → id ∉ (D j).wr.map (·.1.ix)) →
    part ops D s0 q n = (part ops D s0 p n).app (dstOf ops i) (D i)
  | 0, h, _ => by omega
  | n + 1, h, hc => by
    by_cases hn : i = n
    · subst hn
      simp only [part, hi, hq]
      rw [part_same i fun j hj => hne j (by omega)]
    · have ih := part_more hi hq hne n (by omega) fun j h1 h2 => hc j h1 (by omega)
      simp only [part]
      rw [hne n (fun e => hn e.symm)]
      split
      · rename_i hp
        rw [ih]
        obtain ⟨h1, h2⟩ := hc n (by omega) (by omega) hp
        exact St.app_comm _ _ _ _ _ h1 h2
      · exact ih

end

/-! What an operation sees. -/

theorem aeval_congr {e e' : List AV} {x : Operand} (h : ∀ t, x = .tmp t → e[t]? = e'[t]?) : aeval e x = aeval e' x := by
  cases x with
  | tmp t => simp only [aeval, List.getD_eq_getElem?_getD, h t rfl]
  | _ => rfl

theorem aop_congr (E : Env) {ρ ρ' : Operand → AV} (newId : Nat) (o : Op) (h : ∀ x ∈ o.operands, ρ x = ρ' x) : aop E ρ newId o = aop E ρ' newId o := by
  have arr : ∀ xs : Array Operand, (∀ x ∈ xs, ρ x = ρ' x) → xs.toList.map ρ = xs.toList.map ρ' := fun xs hx => List.map_congr_left fun x hm => hx x (Array.mem_toList_iff.1 hm)
  have pairs : ∀ ps : Array (Nat × Operand), (∀ x ∈ ps.map (·.2), ρ x = ρ' x) → (ps.toList.map fun (i, x) => (i, ρ x)) = (ps.toList.map fun (i, x) => (i, ρ' x)) := fun ps hp =>
    List.map_congr_left fun p hm => by
      obtain ⟨i, x⟩ := p
      simp only [hp x (Array.mem_map.2 ⟨(i, x), Array.mem_toList_iff.1 hm, rfl⟩)]
  cases o <;> simp only [Op.operands] at h <;> simp only [aop]
  case build t ps => rw [pairs ps fun x hx => h x (by simpa using hx)]
  case buildSlice t n ps => rw [pairs ps fun x hx => h x (by simpa using hx)]
  case makeFunc f a c => rw [arr a fun x hx => h x (by simp [hx]), arr c fun x hx => h x (by simp [hx])]
  case call c =>
    have hargs : c.args.toList.map ρ = c.args.toList.map ρ' := arr _ fun x hx => h x (by simp [Call.operands, hx])
    cases hc : c.callee with
    | value f => have hf : ρ f = ρ' f := h f (by simp [Call.operands, hc]); simp only [hf, hargs]
    | invoke r m => rfl
    | builtin b => simp only [hargs]
  case slice t x lo hi mx => cases lo <;> cases hi <;> cases mx <;> simp_all
  all_goals (first | rfl | (simp_all; done))

theorem HM.run_local {α : Type} {call : CallF} {h h' : Ref → Option Blk} : ∀ (m : HM α) {x : α} {l : List Nat}, m.run call h = some (x, l) → (∀ r, r.ix ∈ l → h' r = h r) → m.run call h' = some (x, l)
  | .ret a, _, _, e, _ => e
  | .rd id k, x, l, e, hh => by
    obtain ⟨b, l', hb, e', rfl⟩ := HM.run_rd e
    have := HM.run_local (k b) e' (fun i hi => hh i (by simp [hi]))
    simp only [HM.run, hh id (by simp), hb, this]
  | .chk b k, x, l, e, hh => by
    simp only [HM.run] at e ⊢
    cases b
    · cases e
    · exact HM.run_local k e hh
  | .dec b y z, x, l, e, hh => by
    simp only [HM.run] at e ⊢
    cases b
    · exact HM.run_local z e hh
    · exact HM.run_local y e hh
  | .call f as bs n k, x, l, e, hh => by
    simp only [HM.run] at e ⊢
    split at e
    · rename_i r ts wr hr
      exact HM.run_local (k r ts wr) e hh
    · cases e
  | .fail, _, _, e, _ => by cases e

/-- what is read hangs on one place of the heap -/
theorem rdH_congr {h h' : List (Option Blk)} {r : Ref} (e : h[r.ix]? = h'[r.ix]?) : rdH h r = rdH h' r := by
  cases r with
  | l id => simp only [Ref.ix] at e; simp only [rdH, e]
  | o k i q => simp only [Ref.ix] at e; simp only [rdH, e]

theorem stepH_congr (E : Env) {ops : Array Oper} (newId : Nat) (o : Oper) {e e' : List AV} (h : ∀ d, d ∈ o.looksAt ops → e[d]? = e'[d]?) : stepH E ops.toList newId o e = stepH E ops.toList newId o e' := by
  have ha : aop E (aeval e) newId o.op = aop E (aeval e') newId o.op := aop_congr E newId o.op fun x hx => aeval_congr fun t ht => by
    subst ht
    exact h t (List.mem_append_left _ (List.mem_filterMap.2 ⟨.tmp t, by simpa using hx, rfl⟩))
  unfold stepH
  rw [ha]
  split
  · rfl
  · rename_i j want hg
    split
    · rename_i d hd
      have : e[d]? = e'[d]? := h d (by
        refine List.mem_append_right _ ?_
        rw [hg]
        rw [Array.getElem?_toList] at hd
        simp [hd])
      rw [List.getD_eq_getElem?_getD, List.getD_eq_getElem?_getD, this]
    · rfl

end Go.Eng
