/-
  The abstract machine, part 17: calls; every operation.
-/
import Derived.Laws.Externs
import Derived.Test.YtohkmbpdjigjdaaDoorLgEngQ
namespace Go.Eng

theorem rle_old {T : Stat} {I I' : Nat → Prop} {w w' : World} (hi : ∀ b, I b → I' b) (hn : ∀ b, I b → b < w.heap.size) (h : ∀ b, b < w.heap.size → w'.heap[b]? = w.heap[b]?) : RLe (rcW T I w) (rcW T I' w') :=
  rle_of_heap hi fun b hb => h b (hn b hb)

theorem lt_of_heap {w : World} {g : Nat} {o : Obj} (h : w.heap[g]? = some o) : g < w.heap.size := (Array.getElem?_eq_some_iff.1 h).1

theorem WOK.mono {P : Program} {E : Env} {S : Nat → Addr} {w w' : World} (h : WOK P E S w) (hw : ∀ b, b < w.heap.size → w'.heap[b]? = w.heap[b]?) (hs : w.heap.size ≤ w'.heap.size) : WOK P E S w' := by
  refine ⟨fun g row hg => ?_, fun w'' h2 => h.eqs w'' fun b hb => (h2 b (Nat.lt_of_lt_of_le hb hs)).trans (hw b hb), h.ne⟩
  obtain ⟨cs, T, fz, hh, hr⟩ := h.glob g row hg
  exact ⟨cs, T, fz, by rw [hw g (lt_of_heap hh)]; exact hh, hr.mono (rle_of_heap (fun _ hb => hb) fun b hb => hb.elim) (LLe.refl _)⟩

/-- new blocks, numbered -/
def numb : Nat → List (Option Blk) → List (Nat × Blk)
  | _, [] => []
  | n, x :: r => match x with
    | some b => (n, b) :: numb (n + 1) r
    | none => numb (n + 1) r

/-- places as they are said to be -/
def Agree (L' : Nat → Option Pl) (b0 : Nat) (pls : List Pl) : Prop := ∀ (j : Nat) (p : Pl), pls[j]? = some p → L' (b0 + j) = some p

/-- what a function answers, and the new blocks that are the caller's own from then on -/
structure Res (R : RC) (w w' : World) (b0 : Nat) (r : AV) (hp : List (Option Blk)) (v : Value) (pls : List Pl) : Prop where
  len : pls.length = hp.length
  rep : ∀ L', Agree L' b0 pls → Rep R L' r v
  blk : ∀ (j : Nat) (x : Option Blk), hp[j]? = some x → ∃ B p, x = some B ∧ B.frozen = false ∧ pls[j]? = some p ∧ ∀ L', Agree L' b0 pls → BlkOK R L' w' p B
  own : ∀ (j : Nat) (p : Pl), pls[j]? = some p → p.virt = false → w.heap.size ≤ p.b ∧ p.b < w'.heap.size ∧ ¬ R.I p.b
  inj : ∀ (i j : Nat) (p q : Pl), pls[i]? = some p → pls[j]? = some q → p.virt = false → q.virt = false → p.b = q.b → i = j

/-- WHAT A FUNCTION ANSWERS -/
def Con (P : Program) (E : Env) (S : Nat → Addr) (f : FuncId) (args : List AV) (b0 : Nat) (r : AV) (hp : List (Option Blk)) : Prop :=
  ∀ (w : World) (I : Nat → Prop) (vs : Array Value), WOK P E S w → (∀ b, I b → b < w.heap.size) → RepL (rcW (statOf E S) I w) noL args vs.toList →
    Calls P f vs w fun
      | .returned v, w' => IO w w' ∧ w.heap.size ≤ w'.heap.size ∧ (∀ b, b < w.heap.size → w'.heap[b]? = w.heap[b]?) ∧
          ∃ I' : Nat → Prop, (∀ b, I b → I' b) ∧ (∀ b, I' b → I b ∨ w.heap.size ≤ b) ∧ (∀ b, I' b → b < w'.heap.size) ∧ ∃ pls, Res (rcW (statOf E S) I' w') w w' b0 r hp v pls
      | _, _ => False

/-- what is told of functions -/
def CallOK (P : Program) (E : Env) (S : Nat → Addr) (call : CallF) : Prop := ∀ f as n r wr, call f as n = some (r, wr) → ∃ hp, wr = numb n hp ∧ Con P E S f as n r hp

theorem flat1_sound {R R' : RC} {L : Nat → Option Pl} {n : Nat} {x : AV} {v : Value} (hf : x.flat1 n = true) (h : Rep R L x v) : Rep R' L x v := by
  unfold AV.flat1 at hf
  split at hf
  · simpa only [Rep] using h
  · simpa only [Rep] using h
  · cases hf

theorem flat_all {R R' : RC} {L : Nat → Option Pl} {n : Nat} : ∀ {l : List AV} {vs : List Value}, l.all (AV.flat1 n) = true → RepL R L l vs → RepL R' L l vs
  | [], _, _, h => by simpa only [RepL] using h
  | y :: r, _, ha, h => by
    simp only [List.all_cons, Bool.and_eq_true] at ha
    simp only [RepL] at h ⊢
    obtain ⟨z, t, rfl, hz, ht⟩ := h
    exact ⟨z, t, rfl, flat1_sound ha.1 hz, flat_all ha.2 ht⟩

theorem flat_sound {R R' : RC} {L : Nat → Option Pl} {n : Nat} {x : AV} {v : Value} (hf : x.flat n = true) (h : Rep R L x v) : Rep R' L x v := by
  unfold AV.flat at hf
  split at hf
  · rename_i l
    simp only [Rep] at h ⊢
    obtain ⟨cs, rfl, hl⟩ := h
    refine ⟨cs, rfl, ?_⟩
    generalize cs.toList = vs at hl
    induction l generalizing vs with
    | nil => simpa only [RepL] using hl
    | cons y r ih =>
      simp only [List.all_cons, Bool.and_eq_true] at hf
      simp only [RepL] at hl ⊢
      obtain ⟨z, t, rfl, hz, ht⟩ := hl
      refine ⟨z, t, rfl, ?_, ih hf.2 _ ht⟩
      have h1 := hf.1
      split at h1
      · simp only [Rep] at hz ⊢
        obtain ⟨c, rfl, hc⟩ := hz
        exact ⟨c, rfl, flat_all h1 hc⟩
      · exact flat1_sound h1 hz
  · simp only [Rep] at h ⊢
    obtain ⟨cs, rfl, hl⟩ := h
    exact ⟨cs, rfl, flat_all hf hl⟩
  · exact flat1_sound hf h

theorem flatT {R R' : RC} : ∀ (t : Ty) {x : Val t} {cs : List Value}, t.flat = true → RepT R t x cs → RepT R' t x cs
  | .int _, _, _, _, h | .bool, _, _, _, h | .str, _, _, _, h | .flt, _, _, _, h | .unit, _, _, _, h | .nat, _, _, _, h => h
  | .pair a b, _, _, hf, h => by
    simp only [Ty.flat, Bool.and_eq_true] at hf
    obtain ⟨c, d, e, hc, hd⟩ := h
    exact ⟨c, d, e, flatT a hf.1 hc, flatT b hf.2 hd⟩
  | .st a, _, _, hf, h => flatT a (by simpa only [Ty.flat] using hf) h
  | .err, _, _, hf, _ => by cases hf
  | .sl _, _, _, hf, _ => by cases hf
  | .ref _, _, _, hf, _ => by cases hf
  | .clo _ _, _, _, hf, _ => by cases hf

theorem flatB {T : Stat} {I I' : Nat → Prop} {L : Nat → Option Pl} {w : World} {p : Pl} {b : Blk} (hf : b.flat = true) (h : BlkOK (rcW T I w) L w p b) : BlkOK (rcW T I' w) L w p b := by
  obtain ⟨hg, h⟩ := h
  refine ⟨hg, ?_⟩
  unfold Blk.flat at hf
  split at hf
  · rename_i t l hct
    rw [hct] at h ⊢
    rcases h with h | ⟨hv, hw, cs, TT, hh, hs, hle, hi⟩
    · exact .inl h
    · refine .inr ⟨hv, hw, cs, TT, hh, hs, hle, fun i hlt => ?_⟩
      obtain ⟨d, hd, hat⟩ := hi i hlt
      exact ⟨d, flatT t hf hd, hat⟩
  · cases hf

theorem putAll_length : ∀ (wr : List (Nat × Blk)) (h : List (Option Blk)), (putAll h wr).length = h.length
  | [], _ => rfl
  | (i, b) :: r, h => by simp only [putAll]; rw [putAll_length r]; simp

theorem putAll_other : ∀ (wr : List (Nat × Blk)) (h : List (Option Blk)) (id : Nat), id ∉ wr.map (·.1) → (putAll h wr)[id]? = h[id]?
  | [], _, _, _ => rfl
  | (i, b) :: r, h, id, hn => by
    simp only [List.map_cons, List.mem_cons, not_or] at hn
    simp only [putAll]
    rw [putAll_other r _ id hn.2, List.getElem?_set_ne (Ne.symm hn.1)]

theorem putAll_numb : ∀ (hp : List (Option Blk)) (b0 : Nat) (h : List (Option Blk)) (id : Nat), (∀ x, x ∈ hp → x.isSome = true) → b0 + hp.length ≤ h.length →
    (putAll h (numb b0 hp))[id]? = if b0 ≤ id ∧ id < b0 + hp.length then hp[id - b0]? else h[id]?
  | [], b0, h, id, _, _ => by
    simp only [numb, putAll, List.length_nil, Nat.add_zero]
    rw [if_neg (by omega)]
  | none :: r, b0, h, id, hs, _ => by simpa using hs none (by simp)
  | some b :: r, b0, h, id, hs, hl => by
    simp only [List.length_cons] at hl ⊢
    simp only [numb, putAll]
    rw [putAll_numb r (b0 + 1) _ id (fun x hx => hs x (by simp [hx])) (by simp; omega)]
    by_cases h1 : id = b0
    · subst h1
      rw [if_neg (by omega), if_pos (by omega), List.getElem?_set_self (by omega), Nat.sub_self]
      rfl
    · by_cases h2 : b0 + 1 ≤ id ∧ id < b0 + 1 + r.length
      · rw [if_pos h2, if_pos (by omega), show id - b0 = (id - (b0 + 1)) + 1 from by omega, List.getElem?_cons_succ]
      · rw [if_neg h2, if_neg (by omega), List.getElem?_set_ne (Ne.symm h1)]

theorem numb_length : ∀ (hp : List (Option Blk)) (b0 : Nat), (∀ x, x ∈ hp → x.isSome = true) → (numb b0 hp).length = hp.length
  | [], _, _ => rfl
  | none :: r, b0, hs => by simpa using hs none (by simp)
  | some b :: r, b0, hs => by simp only [numb, List.length_cons]; rw [numb_length r _ fun x hx => hs x (by simp [hx])]

theorem numb_mem : ∀ (hp : List (Option Blk)) (b0 j : Nat) (b : Blk), hp[j]? = some (some b) → (b0 + j, b) ∈ numb b0 hp
  | [], _, _, _, h => by simp at h
  | x :: r, b0, 0, b, h => by
    simp only [List.getElem?_cons_zero, Option.some.injEq] at h
    subst h
    simp [numb]
  | x :: r, b0, j + 1, b, h => by
    have := numb_mem r (b0 + 1) j b (by simpa using h)
    rw [show b0 + 1 + j = b0 + (j + 1) from by omega] at this
    cases x with
    | none => simpa only [numb] using this
    | some y => simp only [numb]; exact List.mem_cons_of_mem _ this

/-- more places -/
def addP (L : Nat → Option Pl) (b0 : Nat) (pls : List Pl) : Nat → Option Pl := fun id => if b0 ≤ id ∧ id < b0 + pls.length then pls[id - b0]? else L id

theorem addP_agree (L : Nat → Option Pl) (b0 : Nat) (pls : List Pl) : Agree (addP L b0 pls) b0 pls := by
  intro j p hj
  have := (List.getElem?_eq_some_iff.1 hj).1
  unfold addP
  rw [if_pos (by omega), Nat.add_sub_cancel_left]
  exact hj

theorem addP_le {L : Nat → Option Pl} {b0 : Nat} {pls : List Pl} (hfree : ∀ j, j < pls.length → L (b0 + j) = none) : LLe L (addP L b0 pls) := by
  intro id p hp
  refine ⟨p, ?_, rfl, .inl rfl⟩
  unfold addP
  split
  · rename_i h
    have := hfree (id - b0) (by omega)
    rw [show b0 + (id - b0) = id from by omega, hp] at this
    cases this
  · exact hp

section
variable {c : Ctx} {I : Nat → Prop} {L : Nat → Option Pl} {s : St} {a : Act} {w : World} {call : CallF}

/-- blocks more -/
theorem Sim.addP {w' : World} (h : Sim c I L s a w') {W : Nat} {b0 : Nat} {hp : List (Option Blk)} {pls : List Pl} (hlen : pls.length = hp.length) (hfree : ∀ j, j < pls.length → s.heap[b0 + j]? = some none)
    (hblk : ∀ (j : Nat) (x : Option Blk), hp[j]? = some x → ∃ B p, x = some B ∧ pls[j]? = some p ∧ BlkOK (c.rc I w') (Go.Eng.addP L b0 pls) w' p B)
    (hown : ∀ (j : Nat) (p : Pl), pls[j]? = some p → p.virt = false → W ≤ p.b ∧ p.b < w'.heap.size ∧ ¬ I p.b) (hinj : ∀ (i j : Nat) (p q : Pl), pls[i]? = some p → pls[j]? = some q → p.virt = false → q.virt = false → p.b = q.b → i = j)
    (hW : c.w0.heap.size ≤ W) (hold : ∀ id p, L id = some p → p.virt = false → p.b < W) : Sim c I (Go.Eng.addP L b0 pls) ⟨s.env, putAll s.heap (numb b0 hp)⟩ a w' := by
  have hfL : ∀ j, j < pls.length → L (b0 + j) = none := fun j hj => free_L h (hfree j hj)
  have hle := addP_le hfL
  have hsome : ∀ x, x ∈ hp → x.isSome = true := by
    intro x hx
    obtain ⟨j, hj, rfl⟩ := List.getElem_of_mem hx
    obtain ⟨B, p, e, _⟩ := hblk j _ (List.getElem?_eq_getElem hj)
    rw [e]; rfl
  have hroom : b0 + hp.length ≤ s.heap.length ∨ hp = [] := by
    cases hp with
    | nil => exact .inr rfl
    | cons x r =>
      left
      have := hfree r.length (by rw [hlen]; simp)
      have := (List.getElem?_eq_some_iff.1 this).1
      simp only [List.length_cons]
      omega
  have hget : ∀ id, (putAll s.heap (numb b0 hp))[id]? = if b0 ≤ id ∧ id < b0 + hp.length then hp[id - b0]? else s.heap[id]? := by
    intro id
    rcases hroom with hr | rfl
    · exact putAll_numb hp b0 s.heap id hsome hr
    · simp only [numb, putAll, List.length_nil, Nat.add_zero]
      rw [if_neg (by omega)]
  have hLin : ∀ id p, Go.Eng.addP L b0 pls id = some p → (∃ j, id = b0 + j ∧ pls[j]? = some p) ∨ ((¬ (b0 ≤ id ∧ id < b0 + pls.length)) ∧ L id = some p) := by
    intro id p hp
    unfold Go.Eng.addP at hp
    split at hp
    · exact .inl ⟨id - b0, by omega, hp⟩
    · rename_i hn; exact .inr ⟨hn, hp⟩
  refine ⟨h.env.mono (RLe.refl _) hle, h.defers, ?_, ?_, ?_, ?_, h.imm, h.i0, h.iN, h.same, h.grow, h.io⟩
  · intro id b hb
    simp only at hb
    rw [hget] at hb
    split at hb
    · rename_i hin
      obtain ⟨B, p, e, hp, hk⟩ := hblk _ _ hb
      injection e with e
      subst e
      refine ⟨p, ?_, hk, fun _ hv => (hown _ p hp hv).2.2⟩
      unfold Go.Eng.addP
      rw [if_pos (by rw [hlen]; exact hin)]
      exact hp
    · rename_i hout
      obtain ⟨p, hp, hk, hf⟩ := h.blk id b hb
      refine ⟨p, ?_, hk.mono (RLe.refl _) hle (fun _ => rfl) (fun _ _ => rfl), hf⟩
      unfold Go.Eng.addP
      rw [if_neg (by rw [hlen]; exact hout)]
      exact hp
  · intro id p hpp
    simp only
    rw [hget]
    rcases hLin id p hpp with ⟨j, rfl, hj⟩ | ⟨hn, hL⟩
    · have hjl := (List.getElem?_eq_some_iff.1 hj).1
      have hjh : j < hp.length := by rw [← hlen]; exact hjl
      rw [if_pos (by omega), Nat.add_sub_cancel_left]
      obtain ⟨B, q, e, _⟩ := hblk j _ (List.getElem?_eq_getElem hjh)
      exact ⟨B, by rw [List.getElem?_eq_getElem hjh, e]⟩
    · rw [if_neg (by rw [← hlen]; exact hn)]
      exact h.dom id p hL
  · intro id p hp hv
    rcases hLin id p hp with ⟨j, rfl, hj⟩ | ⟨hn, hL⟩
    · have := hown j p hj hv
      exact ⟨by omega, this.2.1⟩
    · exact h.own id p hL hv
  · intro id id' p p' hp hp' hv hv' hb
    rcases hLin id p hp with ⟨j, rfl, hj⟩ | ⟨hn, hL⟩ <;> rcases hLin id' p' hp' with ⟨j', rfl, hj'⟩ | ⟨hn', hL'⟩
    · rw [hinj j j' p p' hj hj' hv hv' hb]
    · have := (hown j p hj hv).1
      have := hold id' p' hL' hv'
      omega
    · have := (hown j' p' hj' hv').1
      have := hold id p hL hv
      omega
    · exact h.inj id id' p p' hL hL' hv hv' hb

theorem Sim.wok (h : Sim c I L s a w) (hW : WOK c.P c.E c.S c.w0) : WOK c.P c.E c.S w := hW.mono h.same h.grow

theorem HM.run_call {α : Type} {f : FuncId} {as : List AV} {n : Nat} {k : AV → List (Nat × Blk) → HM α} {h : Nat → Option Blk} {x : α} {l : List Nat} (e : (HM.call f as n k).run call h = some (x, l)) : ∃ r wr, call f as n = some (r, wr) ∧ (k r wr).run call h = some (x, l) := by
  simp only [HM.run] at e
  split at e
  · rename_i r wr hr
    exact ⟨r, wr, hr, e⟩
  · cases e

theorem run_even {P : Program} {x : Nat} (h : evenOK x = true) (w : World) : ((Extern.MathFloor.toIntegral "math.RoundToEven" .even) #[.float .f64 x]).run P w = .ok (.float .f64 (evenF x)) w := by
  have key : (Extern.MathFloor.toIntegral "math.RoundToEven" .even) #[.float .f64 x] = (match FloatKind.f64.decode x with
    | .nan s t =>
      if FloatKind.f64.format.quiet t = t then pure (.float .f64 x) else do
      let kept ← choose (.extern "math.Floor,Ceil,Trunc,RoundToEven.signallingNaN kept" 2)
      pure (.float .f64 (if kept == 1 then x else FloatKind.f64.encode (.nan s (FloatKind.f64.format.quiet t))))
    | d => pure (.float .f64 (FloatKind.f64.encode (d.integral .even)))) := rfl
  rw [key]
  unfold evenF
  unfold evenOK at h
  cases hd : FloatKind.f64.decode x with
  | nan s t =>
    rw [hd] at h
    simp only [decide_eq_true_eq] at h
    simp only [if_pos h]
    rfl
  | number s m i => rfl
  | infinity s => rfl

theorem op_call (h : Sim c I L s a w) (hE : EnvOK c.P c.E) (hW : WOK c.P c.E c.S c.w0) (hC : CallOK c.P c.E c.S call) {cl : Call} {o : Oper} (ho : o.op = .call cl) {f : Operand} (hb : cl.callee = .value f) {newId : Nat} (hn : ∀ j, j < 8 → s.heap[newId + j]? = some none) {δ : Dl} {rs : List Nat}
    (e : (aop c.E (aeval s.env) newId o.op).run call s.rd = some (δ, rs)) : OpOK c s a w o δ := by
  have ho' := ho
  rw [ho] at e
  simp only [aop, hb] at e
  have hf := h.eval f
  split at e
  · rename_i g af cp hav
    rw [hav] at hf
    simp only [Rep] at hf
    obtain ⟨a', c', hfv, ha', hc'⟩ := hf
    unfold callA at e
    split at e
    · split at e
      · rename_i k hk
        obtain ⟨fn, hfn, hname, hbody, hnext, hfind⟩ := hE.ext g k hk
        have hargs : RepL (c.rc I w) L (af ++ cl.args.toList.map (aeval s.env) ++ cp) (a' ++ cl.args.map a.eval ++ c').toList := by
          simp only [Array.toList_append, Array.toList_map]
          exact (ha'.append (h.evalL _)).append hc'
        have hex : ∀ v, (k.row (a' ++ cl.args.map a.eval ++ c')).run c.P w = .ok v w → (execOp a.eval o).run c.P w = .ok (.value v) w := by
          intro v hv
          have hcf := run_callFunc_extern hfn hname hbody hnext hfind (a' ++ cl.args.map a.eval ++ c') w
          rw [hv] at hcf
          simp only [execOp, ho', resolve, hb, hfv, Deferred.ofValue, invoke]
          simpa [Sem.run_bind] using hcf
        generalize af ++ cl.args.toList.map (aeval s.env) ++ cp = as at *
        generalize a' ++ cl.args.map a.eval ++ c' = vs at *
        unfold extA at e
        split at e
        · rename_i b
          obtain ⟨rfl, rfl⟩ := HM.run_ret e
          simp only [RepL, Rep] at hargs
          obtain ⟨v, t, hvs, rfl, rfl⟩ := hargs
          have hvs : vs = #[.float .f64 b] := by
            apply Array.ext'
            simpa using hvs
          exact OpOK.value h (v := .int .u64 b) (hex _ (by rw [hvs]; rfl)) (by simp [Rep])
        · rename_i n
          obtain ⟨rfl, rfl⟩ := HM.run_ret e
          simp only [RepL, Rep] at hargs
          obtain ⟨v, t, hvs, rfl, rfl⟩ := hargs
          have hvs : vs = #[.int .u64 n] := by
            apply Array.ext'
            simpa using hvs
          exact OpOK.value h (v := .float .f64 n.toNat) (hex _ (by rw [hvs]; rfl)) (by simp [Rep])
        · rename_i x
          obtain ⟨hck, e⟩ := HM.run_chk e
          obtain ⟨rfl, rfl⟩ := HM.run_ret e
          simp only [RepL, Rep] at hargs
          obtain ⟨v, t, hvs, rfl, rfl⟩ := hargs
          have hvs : vs = #[.float .f64 x] := by
            apply Array.ext'
            simpa using hvs
          exact OpOK.value h (v := .float .f64 (evenF x)) (hex _ (by rw [hvs]; exact run_even hck w)) (by simp [Rep])
        · cases e
      · cases e
    · rename_i fi hfi
      obtain ⟨fn, hfn, hbody, _, _, hname⟩ := hE.fn g fi hfi
      obtain ⟨⟨as, ids⟩, r1, r2, e1, e2, rfl⟩ := HM.run_bind e
      simp only at e2
      obtain ⟨r, wr, hr, e3⟩ := HM.run_call e2
      split at e3
      · cases e3
      rename_i hble
      have hlen8 := Nat.le_of_ble_eq_true hble
      obtain ⟨hp, rfl, hcon⟩ := hC g as newId r wr hr
      have hargs : RepL (c.rc I w) L (af ++ cl.args.toList.map (aeval s.env) ++ cp) (a' ++ cl.args.map a.eval ++ c').toList := by
        simp only [Array.toList_append, Array.toList_map]
        exact (ha'.append (h.evalL _)).append hc'
      obtain ⟨g1, g2⟩ := exportL_sound h 8 e1 hargs
      have hrep := g2 (heldBy I L ids) (fun b hb => .inl hb) (fun id hid p hp hv => .inr ⟨id, p, hid, hp, hv, rfl⟩)
      have hI : ∀ b, heldBy I L ids b → b < w.heap.size := by
        intro b hb
        rcases hb with hb | ⟨id, p, _, hp, hv, rfl⟩
        · exact h.imm b hb
        · exact (h.own id p hp hv).2
      have hcon := hcon w (heldBy I L ids) _ (h.wok hW) hI hrep
      intro K Q hK
      have hexec : (execOp a.eval o).run c.P w = .ok (.enter g (a' ++ cl.args.map a.eval ++ c')) w := by
        have hn : fn.body.isNone = false := by rw [hbody]; rfl
        have hname' : ¬ fn.name = "runtime.NumGoroutine" := by simpa using hname
        simp [execOp, ho', resolve, hb, hfv, Deferred.ofValue, invoke, callFunc, program, Sem.run, hfn, hname', hbody]
      unfold Oper.wp
      rw [hexec, Oper.upon_enter]
      refine hcon.mono fun en w' hen => ?_
      cases en with
      | returned v =>
        obtain ⟨hio, hs, hw, I', hI1, hI2, hI3, pls, hres⟩ := hen
        simp only
        have hsome : ∀ x, x ∈ hp → x.isSome = true := by
          intro x hx
          obtain ⟨j, hj, rfl⟩ := List.getElem_of_mem hx
          obtain ⟨B, p, e, _⟩ := hres.blk j _ (List.getElem?_eq_getElem hj)
          rw [e]; rfl
        have hpl : pls.length ≤ 8 := by rw [hres.len, ← numb_length hp newId hsome]; exact hlen8
        have hold : ∀ id p, L id = some p → p.virt = false → p.b < w.heap.size := fun id p hp hv => (h.own id p hp hv).2
        split at e3
        · rename_i hflat
          simp only [Bool.and_eq_true, List.all_eq_true] at hflat
          obtain ⟨rfl, rfl⟩ := HM.run_ret e3
          have h' : Sim c I L s a w' := h.world (fun _ hb => hb) hs hw (fun b hb => Nat.lt_of_lt_of_le (h.imm b hb) hs) (fun b hb => .inl hb) hio
          have h2 := h'.addP (W := w.heap.size) (b0 := newId) (hp := hp) (pls := pls) hres.len (fun j hj => hn j (by omega)) (fun j x hx => ?_) (fun j p hp hv => ?_) hres.inj h.grow hold
          · exact hK I _ _ _ (h2.put o.dst (flat_sound hflat.1 (hres.rep _ (addP_agree L newId pls))))
          · obtain ⟨B, p, hx', _, hp', hk⟩ := hres.blk j x hx
            subst hx'
            refine ⟨B, p, rfl, hp', flatB ?_ (hk (addP L newId pls) (addP_agree L newId pls))⟩
            have hmem := numb_mem hp newId j B hx
            exact hflat.2 _ hmem
          · obtain ⟨q1, q2, q3⟩ := hres.own j p hp hv
            exact ⟨q1, q2, fun hi => by have := h.imm _ hi; omega⟩
        · obtain ⟨fz, r3, r4, e4, e5, rfl⟩ := HM.run_bind e3
          obtain ⟨rfl, rfl⟩ := HM.run_ret e5
          have hF := h.freezeAll e4 (fun id hid => (g1 id hid).2)
          obtain ⟨f1, f2, f3, _⟩ := freezeAll_sound e4 s.heap (fun id hid => by obtain ⟨b, hb⟩ := (g1 id hid).2; exact lt_of_rd hb)
          have h' : Sim c I' L ⟨s.env, putAll s.heap fz⟩ a w' := hF.world hI1 hs hw hI3 hI2 hio
          have h2 := h'.addP (W := w.heap.size) (b0 := newId) (hp := hp) (pls := pls) hres.len (fun j hj => ?_) (fun j x hx => ?_) hres.own hres.inj h.grow hold
          · have h3 := h2.put o.dst (hres.rep _ (addP_agree L newId pls))
            refine hK I' (addP L newId pls) _ _ ?_
            simp only [St.app, putAll_append]
            exact h3
          · have hnid : newId + j ∉ ids := by
              intro hm
              obtain ⟨b, hb⟩ := (g1 _ hm).2
              rw [hn j (by omega)] at hb
              injection hb with hb
              cases hb
            show (putAll s.heap fz)[newId + j]? = _
            rw [f2 _ hnid]
            exact hn j (by omega)
          · obtain ⟨B, p, hx', _, hp', hk⟩ := hres.blk j x hx
            exact ⟨B, p, hx', hp', hk (addP L newId pls) (addP_agree L newId pls)⟩
      | panicked ch => exact hen.elim
      | outgrown => exact hen.elim
  · cases e

theorem op_store (h : Sim c I L s a w) (hE : EnvOK c.P c.E) {t : TypeId} {x y : Operand} {o : Oper} (ho : o.op = .store t x y) {newId : Nat} {δ : Dl} {rs : List Nat}
    (e : (aop c.E (aeval s.env) newId o.op).run call s.rd = some (δ, rs)) : OpOK c s a w o δ := by
  have ho' := ho
  rw [ho] at e
  simp only [aop] at e
  unfold storeA at e
  split at e
  · rename_i ti id i j g hty hav
    obtain ⟨b, l', hb, e1, rfl⟩ := HM.run_rd e
    split at e1
    · rename_i hc
      obtain ⟨hg, hz⟩ := hc
      split at e1
      · rename_i r hct
        split at e1
        · rename_i cs hcs
          split at e1
          · rename_i hcc
            obtain ⟨rfl, hall, hsz, hle⟩ := hcc
            obtain ⟨rfl, rfl⟩ := HM.run_ret e1
            exact op_storeBox h hE ho' hty hav hb hg hz hct hcs hall hsz hle
          · cases e1
        · cases e1
      · rename_i u l hct
        obtain ⟨hlt, e2⟩ := HM.run_chk e1
        obtain ⟨⟨y', ids⟩, r1, r2, e3, e4, rfl⟩ := HM.run_bind e2
        obtain ⟨fz, r3, r4, e5, e6, rfl⟩ := HM.run_bind e4
        split at e6
        · rename_i cs hcs
          split at e6
          · rename_i hcc
            obtain ⟨hall, hsz, hle, hno⟩ := hcc
            split at e6
            · rename_i z hdec
              obtain ⟨rfl, rfl⟩ := HM.run_ret e6
              exact op_storeSl h hE ho' hty hav hb hg hz hct (of_decide_eq_true hlt) e3 e5 hcs hall hsz hle hno hdec
            · cases e6
          · cases e6
        · cases e6
    · cases e1
  · cases e

/-- x[:0:0] -/
theorem op_empty (h : Sim c I L s a w) (hE : EnvOK c.P c.E) {t : TypeId} {x m : Operand} {lo hi : Option Operand} {o : Oper} (ho : o.op = .slice t x lo hi (some m)) {newId : Nat} (hn : s.heap[newId]? = some none) {δ : Dl} {rs : List Nat}
    (e : (aop c.E (aeval s.env) newId o.op).run call s.rd = some (δ, rs)) : OpOK c s a w o δ := by
  rw [ho] at e
  simp only [aop] at e
  have hx := h.eval x
  have hm := h.eval m
  obtain ⟨hlo1, hlo2⟩ := opt_eval h lo
  obtain ⟨hhi1, hhi2⟩ := opt_eval h hi
  unfold emptyA at e
  split at e
  case h_2 => cases e
  rename_i ti hty
  obtain ⟨d, i, z, hT⟩ := hE.ty _ ti hty
  have hd := hT.desc
  split at e
  case h_2 => cases e
  rename_i el htd
  rw [htd] at hd
  obtain rfl := descOf_slice hd
  split at e
  case h_2 => cases e
  rename_i ei hei
  obtain ⟨d2, i2, z2, hT2⟩ := hE.ty _ ei hei
  split at e
  case h_2 => cases e
  rename_i u k1 p k2 q hu hlo hhi hmv
  split at e
  case isFalse => cases e
  rename_i hpq
  obtain ⟨rfl, rfl⟩ := hpq
  have hlo := hlo2 hlo
  obtain ⟨vh, hvh, hrh⟩ := hhi1 _ hhi
  simp only [Rep] at hrh
  subst hrh
  rw [hmv] at hm
  simp only [Rep] at hm
  have hmv' : (some m).map a.eval = some (.int k2 0) := by rw [Option.map_some, hm]
  have hrun : ∀ len cap, (Instr.sliceBounds true len cap (lo.map a.eval) (hi.map a.eval) ((some m).map a.eval)).run c.P w = .ok (0, 0, 0) w := by
    intro len cap
    rw [hlo, hvh, hmv']
    simp [Instr.sliceBounds, Instr.sliceBound, asIntOf]
  have hexec : ∀ ad n cap, a.eval x = .slice ad n cap → (execOp a.eval o).run c.P w = .ok (.value (.slice ad 0 0)) w := by
    intro ad n cap hs
    simp only [execOp, ho]
    rw [hs]
    simp only [Instr.sliceAt, Instr.slice, Sem.run_bind, hT.run_u, Result.andThen_ok, hrun, hT2.run_size]
    rfl
  have fin : ∀ ad n cap, a.eval x = .slice ad n cap → OpOK c s a w o { x := .lsl u newId 0 0 0, wr := [(newId, { ct := .sl u [], gen := 0, frozen := false })] } := by
    intro ad n cap hs K Q hK
    unfold Oper.wp
    rw [hexec ad n cap hs, Oper.upon_value]
    have h2 := h.addP (W := w.heap.size) (b0 := newId) (hp := [some { ct := .sl u [], gen := 0, frozen := false }]) (pls := [⟨0, 0, u.size, 0, 0, true⟩]) rfl (fun j hj => by
        have : j = 0 := by simpa using hj
        subst this
        exact hn) (fun j x hx => by
        cases j with
        | zero => simp only [List.getElem?_cons_zero, Option.some.injEq] at hx; subst hx; exact ⟨_, _, rfl, rfl, rfl, .inl ⟨rfl, rfl⟩⟩
        | succ j => simp at hx) (fun j p hp hv => by
        cases j with
        | zero => simp only [List.getElem?_cons_zero, Option.some.injEq] at hp; subst hp; cases hv
        | succ j => simp at hp) (fun i j p q hp hq hv => by
        cases i with
        | zero => simp only [List.getElem?_cons_zero, Option.some.injEq] at hp; subst hp; cases hv
        | succ j => simp at hp) h.grow (fun id p hp hv => (h.own id p hp hv).2)
    refine hK I _ _ _ (h2.put o.dst ?_)
    simp only [Rep]
    exact ⟨_, addP_agree L newId [⟨0, 0, u.size, 0, 0, true⟩] 0 _ rfl, rfl, Nat.le_refl _, ad, 0, rfl, Nat.le_refl _, fun h => absurd rfl h, fun _ => .inl rfl⟩
  split at e
  · rename_i hav
    rw [hav] at hx
    simp only [Rep] at hx
    obtain ⟨rfl, rfl⟩ := HM.run_ret e
    exact OpOK.value h (v := .slice none 0 0) (hexec none 0 0 hx) (by rw [hav]; simp [Rep])
  · rename_i t0 l0 hav
    rw [hav] at hx
    simp only [Rep] at hx
    obtain ⟨ad, cap, hs, _⟩ := hx
    simp only [List.cons.injEq, and_true] at hs
    obtain ⟨rfl, rfl⟩ := HM.run_ret e
    exact fin ad _ cap hs
  · rename_i t0 id0 i0 n0 g0 hav
    rw [hav] at hx
    simp only [Rep] at hx
    obtain ⟨p, hp, hw, hge, ad, cap, hs, _⟩ := hx
    obtain ⟨rfl, rfl⟩ := HM.run_ret e
    exact fin ad _ cap hs
  · cases e

/-- EVERY OPERATION -/
theorem aop_sound (h : Sim c I L s a w) (hE : EnvOK c.P c.E) (hW : WOK c.P c.E c.S c.w0) (hC : CallOK c.P c.E c.S call) {o : Oper} {newId : Nat} (hnn : ∀ j, j < wid o.op → s.heap[newId + j]? = some none) {δ : Dl} {rs : List Nat}
    (e : (aop c.E (aeval s.env) newId o.op).run call s.rd = some (δ, rs)) : OpOK c s a w o δ := by
  have hn : s.heap[newId]? = some none := hnn 0 (by unfold wid; split <;> (try split) <;> omega)
  cases ho : o.op with
  | move x => exact op_move h (.inl ho) e
  | assign x => exact op_move h (.inr ho) e
  | pick x y z => exact op_pick h ho e
  | alloc t => exact op_alloc h hE ho hn e
  | box t x => exact op_box h ho hn e
  | build t ps => exact op_build h hE ho e
  | buildSlice t n ps => exact op_buildSlice h hE ho hn e
  | load t x =>
    rw [ho] at e
    simp only [aop] at e
    obtain ⟨y, hy, rfl⟩ := run_vbind e
    exact op_load h hE hW ho hy
  | store t x y => exact op_store h hE ho e
  | nilCheck x => exact op_nilCheck h ho e
  | binOp op t x y t' => exact op_binOp h hE hW ho e
  | unOp op t x => exact op_unOp h ho e
  | convert t t' x => exact op_convert h hE ho e
  | makeInterface t x => exact op_makeInterface h hE ho e
  | makeFunc f x y => exact op_makeFunc h ho e
  | makeSlice t x y => exact op_makeSlice h hE ho hn e
  | slice t x lo hi mx =>
    cases mx with
    | none => exact op_slice h hE ho e
    | some m => exact op_empty h hE ho hn e
  | fieldAddr t x f => exact op_fieldAddr h hE ho e
  | field t x f => exact op_field h hE ho e
  | indexAddr t x ix => exact op_indexAddr h hE ho e
  | index t x ix => exact op_index h hE ho e
  | typeAssert x xt t ok => exact op_typeAssert h hE hW.ne ho e
  | extract t i => exact op_extract h ho e
  | call cl =>
    cases hb : cl.callee with
    | value f => exact op_call h hE hW hC ho hb (fun j hj => hnn j (by rw [ho]; simp only [wid, hb]; exact hj)) e
    | invoke r m => rw [ho] at e; simp only [aop, hb] at e; cases e
    | builtin b =>
      cases b with
      | len => exact op_len h hE ho hb e
      | append => exact op_append h hE ho hb hn e
      | copy => exact op_copy h hE ho hb e
      | max => exact op_max h ho hb e
      | min => exact op_min h ho hb e
      | _ => rw [ho] at e; simp only [aop, hb, builtinA] at e; cases e
  | _ => rw [ho] at e; simp only [aop] at e; cases e

end
end Go.Eng
