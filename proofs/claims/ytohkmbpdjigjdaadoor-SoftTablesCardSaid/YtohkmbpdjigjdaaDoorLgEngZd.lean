/-
  The abstract machine, part 29: where ways join, what is known is told anew.
-/
import Derived.Test.YtohkmbpdjigjdaaDoorLgEngZc
import Derived.Scope
namespace Go.Eng
open Go

/-- where ways join (by the number of the sequence), and what is known there -/
abbrev Joins := List (Nat × List (AX × List Slot))

def joinAt : Joins → Nat → Option (List (AX × List Slot))
  | [], _ => none
  | p :: r, m => match Nat.beq p.1 m with
    | true => some p.2
    | false => joinAt r m

def nseqs : Code → Nat
  | .seq a b => nseqs a + nseqs b + 1
  | .cond _ a b => nseqs a + nseqs b
  | .block _ c => nseqs c
  | .scope c => nseqs c
  | _ => 0

def runJK (E : Env) (cs : List CallSpec) (ls : List LoopSpec) (js : Joins) : Code → Nat → Nat → St → (R : Type) → (AX → St → Option R) → Option R
  | .skip, _, _, s, _, k => k .normal s
  | .region _ ops draw, _, _, s, _, k => regionK E (callKt E.toNames cs) ops.toList draw s k
  | .seq a b, n, m, s, R, k => match joinAt js m with
    | none => runJK E cs ls js a n (m + 1) s R fun e s' => match e with
      | .normal => runJK E cs ls js b (n + nloops a) (m + 1 + nseqs a) s' R k
      | e => k e s'
    | some ex => (runJK E cs ls js a n (m + 1) s (ExTy ex) fun e s' => leaveK E.toNames cs ex e s' some).bind fun y => exK (fun e s' => match e with
      | .normal => runJK E cs ls js b (n + nloops a) (m + 1 + nseqs a) s' R k
      | e => k e s') ex y
  | .cond c a b, n, m, s, R, k => match aeval s.env c with
    | .v (.bool t) => match c with
      | .tmp d => cond t (runJK E cs ls js a n m ⟨setB s.env d true, s.heap⟩ R k) (runJK E cs ls js b (n + nloops a) (m + nseqs a) ⟨setB s.env d false, s.heap⟩ R k)
      | _ => cond t (runJK E cs ls js a n m s R k) (runJK E cs ls js b (n + nloops a) (m + nseqs a) s R k)
    | _ => none
  | .block id c, n, m, s, R, k => runJK E cs ls js c n m s R fun e s' => match e with
    | .exit id' => if id' = id then k .normal s' else k (.exit id') s'
    | e => k e s'
  | .scope c, n, m, s, R, k => runJK E cs ls js c n m s R k
  | .label _, _, _, s, _, k => k .normal s
  | .loop _, n, _, s, _, k => loopKt E.toNames (callKt E.toNames cs) ls n s k
  | .exit id, _, _, s, _, k => k (.exit id) s
  | .ret, _, _, s, _, k => k .ret s
  | _, _, _, _, _, _ => none

def loopBodyJK (E : Env) (cs : List CallSpec) (ls : List LoopSpec) (js : Joins) (i : Nat) (body : Code) (head : List Slot) (ex : List (AX × List Slot)) (k : Val (slotsTy head) → Option (ExTy ex)) (x : Val (slotsTy head)) : Option (ExTy ex) :=
  runJK E cs ls js body (i + 1) 0 (encSlots head x) (ExTy ex) fun e s => match e with
    | .normal => (decSlots E.toNames head s).runK (callKt E.toNames cs) s.rd [] fun y _ => k y
    | e => leaveK E.toNames cs ex e s some

def funJKA (E : Env) (cs : List CallSpec) (ls : List LoopSpec) (js : Joins) (fi : FnI) (args : List AV) (rs : List Slot) : Option (Val (slotsTy rs)) :=
  runJK E cs ls js fi.body 0 0 (entry fi args) (Val (slotsTy rs)) fun e s => match e with
    | .exit _ => none
    | _ => (finA E fi rs s).runK (callKt E.toNames cs) s.rd [] fun y _ => some y

def funJK (E : Env) (cs : List CallSpec) (ls : List LoopSpec) (js : Joins) (fi : FnI) (ps : List Ty) (rs : List Slot) (x : Val (rowTy ps)) : Option (Val (slotsTy rs)) := funJKA E cs ls js fi (encL ps x) rs

section
variable {P : Program} {E : Env} {S : Nat → Addr}

theorem nloops_length : ∀ c : Code, (loopsOf c).length = nloops c := by
  intro c
  induction c with
  | seq a b iha ihb => simp [loopsOf, nloops, iha, ihb]
  | cond _ a b iha ihb => simp [loopsOf, nloops, iha, ihb]
  | block _ c ih => simpa [loopsOf, nloops] using ih
  | loop c ih => simp [loopsOf, nloops, ih]
  | scope c ih => simpa [loopsOf, nloops] using ih
  | _ => rfl

theorem CodeCon.seq {a b : Code} {s t u : St} {x : AX} (h : CodeCon P E S a s .normal t) (h' : CodeCon P E S b t x u) : CodeCon P E S (.seq a b) s x u := by
  intro w0 I0 I L q w hW hs Q hQ
  refine wp_seq (h w0 I0 I L q w hW hs _ fun I' L' a' w' hs' => ?_)
  exact h' w0 I0 I' L' a' w' hW hs' Q hQ

theorem CodeCon.seq_out {a b : Code} {s t : St} {x : AX} (hx : x ≠ .normal) (h : CodeCon P E S a s x t) : CodeCon P E S (.seq a b) s x t := by
  intro w0 I0 I L q w hW hs Q hQ
  refine wp_seq (h w0 I0 I L q w hW hs _ fun I' L' a' w' hs' => ?_)
  have := hQ I' L' a' w' hs'
  cases x with
  | normal => exact absurd rfl hx
  | exit id => exact this
  | ret => exact this

/-- CODE, with joins -/
theorem runJK_sound (hE : EnvOK P E) (hm : P.follows .mixedOrders = true) {cs : List CallSpec} (hcs : CallsOK P E S cs) {all : List Code} {ls : List LoopSpec} (hls : LoopsOK P E S all ls) {js : Joins} :
    ∀ (c : Code) (n m : Nat) (s : St) (R : Type) (k : AX → St → Option R) (z : R), codeOK c = true → (∀ i d, (loopsOf c)[i]? = some d → all[n + i]? = some d) → runJK E cs ls js c n m s R k = some z → ∃ x t, CodeCon P E S c s x t ∧ k x t = some z := by
  intro c
  induction c with
  | skip =>
    intro n m s R k z _ _ e
    exact ⟨.normal, s, fun w0 I0 I L a w hW hs Q hQ => wp_skip (hQ I L a w hs), e⟩
  | region id ops draw =>
    intro n m s R k z hok _ e
    simp only [runJK] at e
    rw [regionK_eq (callKt_eq E.toNames cs)] at e
    cases hr : regionA E (callT E.toNames cs) ops.toList draw s with
    | none => rw [hr] at e; cases e
    | some p =>
      obtain ⟨x, t⟩ := p
      rw [hr] at e
      exact ⟨x, t, region_sound hE hm (callT_con hcs) hok hr, e⟩
  | seq c d ihc ihd =>
    intro n m s R k z hok hall e
    simp only [codeOK, Bool.and_eq_true] at hok
    have hc : ∀ i d', (loopsOf c)[i]? = some d' → all[n + i]? = some d' := fun i d' h => hall i d' (by
      simp only [loopsOf]
      rw [List.getElem?_append_left (List.getElem?_eq_some_iff.1 h).1]
      exact h)
    have hd : ∀ i d', (loopsOf d)[i]? = some d' → all[n + nloops c + i]? = some d' := fun i d' h => by
      have := hall (nloops c + i) d' (by
        simp only [loopsOf]
        rw [List.getElem?_append_right (by rw [nloops_length]; omega), nloops_length, Nat.add_sub_cancel_left]
        exact h)
      rw [Nat.add_assoc]
      exact this
    have fin : ∀ x t, CodeCon P E S c s x t → (match x with
        | .normal => runJK E cs ls js d (n + nloops c) (m + 1 + nseqs c) t R k
        | e => k e t) = some z → ∃ x t, CodeCon P E S (.seq c d) s x t ∧ k x t = some z := by
      intro x t h h'
      cases x with
      | normal =>
        obtain ⟨x', t', h1, h2⟩ := ihd _ _ t R k z hok.2 hd h'
        exact ⟨x', t', h.seq h1, h2⟩
      | exit id => exact ⟨.exit id, t, h.seq_out (by simp), h'⟩
      | ret => exact ⟨.ret, t, h.seq_out (by simp), h'⟩
    simp only [runJK] at e
    cases hj : joinAt js m with
    | none =>
      rw [hj] at e
      simp only at e
      obtain ⟨x, t, h, h'⟩ := ihc _ _ s R _ z hok.1 hc e
      exact fin x t h h'
    | some ex =>
      rw [hj] at e
      simp only at e
      cases hr : runJK E cs ls js c n (m + 1) s (ExTy ex) (fun e s' => leaveK E.toNames cs ex e s' some) with
      | none => rw [hr] at e; cases e
      | some y =>
        rw [hr] at e
        simp only [Option.bind_some] at e
        obtain ⟨x, t, h, h'⟩ := ihc _ _ s _ _ y hok.1 hc hr
        obtain ⟨y', g0, g1, g2⟩ := leaveK_con (P := P) (S := S) h'
        injection g0 with g0
        subst g0
        rw [exK_eq] at e
        refine fin _ _ ?_ e
        rw [g1]
        exact h.post g2
  | cond q c d ihc ihd =>
    intro n m s R k z hok hall e
    simp only [codeOK, Bool.and_eq_true] at hok
    simp only [runJK] at e
    have hc : ∀ i d', (loopsOf c)[i]? = some d' → all[n + i]? = some d' := fun i d' h => hall i d' (by
      simp only [loopsOf]
      rw [List.getElem?_append_left (List.getElem?_eq_some_iff.1 h).1]
      exact h)
    have hd : ∀ i d', (loopsOf d)[i]? = some d' → all[n + nloops c + i]? = some d' := fun i d' h => by
      have := hall (nloops c + i) d' (by
        simp only [loopsOf]
        rw [List.getElem?_append_right (by rw [nloops_length]; omega), nloops_length, Nat.add_sub_cancel_left]
        exact h)
      rw [Nat.add_assoc]
      exact this
    split at e
    · rename_i tb hav
      have fin : cond tb (runJK E cs ls js c n m s R k) (runJK E cs ls js d (n + nloops c) (m + nseqs c) s R k) = some z → ∃ x t, CodeCon P E S (.cond q c d) s x t ∧ k x t = some z := by
        intro e
        cases tb with
        | true =>
          simp only [cond_true] at e
          obtain ⟨x, t, h, h'⟩ := ihc _ _ s R k z hok.1 hc e
          refine ⟨x, t, fun w0 I0 I L a w hW hs Q hQ => ?_, h'⟩
          have hq := hs.eval q
          rw [hav] at hq
          simp only [Rep] at hq
          exact wp_cond_true hq (h w0 I0 I L a w hW hs Q hQ)
        | false =>
          simp only [cond_false] at e
          obtain ⟨x, t, h, h'⟩ := ihd _ _ s R k z hok.2 hd e
          refine ⟨x, t, fun w0 I0 I L a w hW hs Q hQ => ?_, h'⟩
          have hq := hs.eval q
          rw [hav] at hq
          simp only [Rep] at hq
          exact wp_cond_false hq (h w0 I0 I L a w hW hs Q hQ)
      split at e
      · rename_i d
        have hq' : s.env.getD d .top = .v (.bool tb) := hav
        refine fin ?_
        cases tb
        · simp only [cond_false] at e ⊢; rw [setB_self hq'] at e; exact e
        · simp only [cond_true] at e ⊢; rw [setB_self hq'] at e; exact e
      · exact fin e
    · cases e
  | block id c ih =>
    intro n m s R k z hok hall e
    simp only [codeOK] at hok
    simp only [runJK] at e
    obtain ⟨x, t, h, h'⟩ := ih _ _ s R _ z hok hall e
    cases x with
    | normal =>
      refine ⟨.normal, t, fun w0 I0 I L a w hW hs Q hQ => ?_, h'⟩
      exact wp_block (h w0 I0 I L a w hW hs _ fun I' L' a' w' hs' => hQ I' L' a' w' hs')
    | exit id' =>
      simp only at h'
      by_cases hi : id' = id
      · rw [if_pos hi] at h'
        refine ⟨.normal, t, fun w0 I0 I L a w hW hs Q hQ => ?_, h'⟩
        refine wp_block (h w0 I0 I L a w hW hs _ fun I' L' a' w' hs' => ?_)
        simp only [AX.toExit, Exit.inBlock]
        rw [if_pos hi]
        exact hQ I' L' a' w' hs'
      · rw [if_neg hi] at h'
        refine ⟨.exit id', t, fun w0 I0 I L a w hW hs Q hQ => ?_, h'⟩
        refine wp_block (h w0 I0 I L a w hW hs _ fun I' L' a' w' hs' => ?_)
        simp only [AX.toExit, Exit.inBlock]
        rw [if_neg hi]
        exact hQ I' L' a' w' hs'
    | ret =>
      refine ⟨.ret, t, fun w0 I0 I L a w hW hs Q hQ => ?_, h'⟩
      exact wp_block (h w0 I0 I L a w hW hs _ fun I' L' a' w' hs' => hQ I' L' a' w' hs')
  | scope c ih =>
    intro n m s R k z hok hall e
    simp only [codeOK] at hok
    simp only [runJK] at e
    obtain ⟨x, t, h, h'⟩ := ih _ _ s R k z hok hall e
    refine ⟨x, t, fun w0 I0 I L a w hW hs Q hQ => ?_, h'⟩
    refine wp_scope_straight (h w0 I0 I L a w hW hs _ fun I' L' a' w' hs' => ?_)
    have := hQ I' L' a' w' hs'
    cases x <;> exact this
  | label l =>
    intro n m s R k z _ _ e
    exact ⟨.normal, s, fun w0 I0 I L a w hW hs Q hQ => wp_label (hQ I L a w hs), e⟩
  | loop c _ =>
    intro n m s R k z _ hall e
    simp only [runJK] at e
    rw [loopKt_eq E.toNames cs] at e
    cases hr : loopT E.toNames (callT E.toNames cs) ls n s with
    | none => rw [hr] at e; cases e
    | some p =>
      obtain ⟨x, t⟩ := p
      rw [hr] at e
      exact ⟨x, t, loopT_con (call := callT E.toNames cs) hls n c s x t (by have := hall 0 c rfl; simpa using this) hr, e⟩
  | exit id =>
    intro n m s R k z _ _ e
    exact ⟨.exit id, s, fun w0 I0 I L a w hW hs Q hQ => wp_exit (hQ I L a w hs), e⟩
  | ret =>
    intro n m s R k z _ _ e
    exact ⟨.ret, s, fun w0 I0 I L a w hW hs Q hQ => wp_ret (hQ I L a w hs), e⟩
  | _ => intro n m s R k z _ _ e; simp only [runJK] at e; cases e

/-- A LOOP -/
theorem loop_specJ (hE : EnvOK P E) (hm : P.follows .mixedOrders = true) {cs : List CallSpec} (hcs : CallsOK P E S cs) {all : List Code} {ls : List LoopSpec} (hls : LoopsOK P E S all ls) {js : Joins} {i : Nat} {body : Code} {head : List Slot} {ex : List (AX × List Slot)}
    (hok : codeOK body = true) (hin : ∀ j d, (loopsOf body)[j]? = some d → all[i + 1 + j]? = some d) (g : Nat → Val (slotsTy head) → Option (ExTy ex)) (h0 : ∀ x, g 0 x = none) (hs : ∀ n x, g (n + 1) x = loopBodyJK E cs ls js i body head ex (g n) x) :
    ∀ n x y, g n x = some y → LoopCon P E S body (encSlots head x) (encEx ex y).1 (encEx ex y).2 := by
  intro n
  induction n with
  | zero => intro x y e; rw [h0] at e; cases e
  | succ n ih =>
    intro x y e
    rw [hs] at e
    unfold loopBodyJK at e
    obtain ⟨z, s, hcode, e⟩ := runJK_sound hE hm hcs hls body (i + 1) 0 _ _ _ y hok hin e
    have hleave : ∀ z', z' ≠ AX.normal → z = z' → leaveK E.toNames cs ex z' s some = some y → LoopCon P E S body (encSlots head x) (encEx ex y).1 (encEx ex y).2 := by
      intro z' hne hz hl
      obtain ⟨y', h0, h1, h2⟩ := leaveK_con (P := P) (S := S) hl
      injection h0 with h0
      subst h0
      rw [h1, ← hz]
      exact .leave (hcode.post h2) (by rw [hz]; exact hne)
    cases z with
    | normal =>
      simp only at e
      rw [HM.runK_eq (callKt_eq E.toNames cs)] at e
      cases hd : (decSlots E.toNames head s).run (callT E.toNames cs) s.rd with
      | none => rw [hd] at e; cases e
      | some q =>
        obtain ⟨x', rs⟩ := q
        rw [hd] at e
        simp only [Option.bind_some] at e
        exact .again (hcode.post (decSlots_ref hd)) (ih x' y e)
    | exit id => exact hleave (.exit id) (by simp) rfl e
    | ret => exact hleave .ret (by simp) rfl e

/-- A FUNCTION, by what its code comes to -/
theorem fn_soundC (hE : EnvOK P E) {call : CallF} {f : FuncId} {fi : FnI} (hf : E.fn f = some fi)
    {args : List AV} {x : AX} {t : St} (hx : ∀ id, x ≠ .exit id)
    (hcode : CodeCon P E S fi.body (entry fi args) x t) {rs : List Slot} {y : Val (slotsTy rs)} {us : List Nat} (e' : (finA E fi rs t).run call t.rd = some (y, us)) : ∀ b0, Con P E S f args b0 (packA (encEnv rs b0 y)) (encHeap rs b0 y) := by
  intro b0 w I vs hW hI hargs
  obtain ⟨fn, hfn, hbody, hnt, hres, _⟩ := hE.fn f fi hf
  have hlen : args.length = vs.size := by
    have := hargs.length
    simpa using this.symm
  have hs0 : Sim ⟨P, E, S, w, I⟩ I noL (entry fi args) { tmps := vs ++ Array.replicate (fn.ntmps - vs.size) undef, defers := [] } w := by
    refine ⟨?_, rfl, fun id b hb => by simp [entry] at hb, fun id p hp => by simp [noL] at hp, fun id p hp => by simp [noL] at hp, fun id id' p p' hp => by simp [noL] at hp, hI, fun b hb => hb, fun b hb => .inl hb, fun b _ => rfl, Nat.le_refl _, IO.refl w⟩
    simp only [entry, Array.toList_append, Array.toList_replicate]
    refine hargs.append ?_
    rw [hlen, hnt]
    generalize fi.ntmps - vs.size = n
    induction n with
    | zero => simp [RepL]
    | succ n ih => simp only [List.replicate_succ, RepL]; exact ⟨_, _, rfl, by simp [Rep], ih⟩
  refine calls_of_wp hfn hbody (hcode w I I noL _ w hW hs0 _ fun I' L' a' w' h' => ?_)
  unfold finA at e'
  obtain ⟨l, q1, q2, hl, eq, rfl⟩ := HM.run_bind e'
  unfold decSlots at eq
  obtain ⟨⟨env, ids⟩, r1, r2, e1, e2, rfl⟩ := HM.run_bind eq
  simp only at e2
  obtain ⟨us, hrun, hrep⟩ := resA_sound h' hE hW hl
  obtain ⟨g1, g2⟩ := expA_sound h' e1 hrep
  have hi : ∀ b, I' b → heldBy I' L' ids b := fun b hb => .inl hb
  have hrep2 := g2 (heldBy I' L' ids) hi (fun id hid p hp hv => .inr ⟨id, p, hid, hp, hv, rfl⟩)
  obtain ⟨used', src, pls, hk, hs⟩ := decE_kept (c := ⟨P, E, S, w, I⟩) h' hi (fun id hid p hp hv => .inr ⟨id, p, hid, hp, hv, rfl⟩) rs _ _ _ _ _ b0 e2 hrep2
  have hsrc : ∀ (b : Nat) (q : Pl), pls[b]? = some q → q.virt = false → ∃ id p, src[b]? = some (some id) ∧ id ∉ ids ∧ L' id = some p ∧ q.b = p.b ∧ p.virt = false ∧ ¬ I' p.b := by
    intro b q hq hv
    have hlt : b < src.length := by rw [← hk.len.1]; exact (List.getElem?_eq_some_iff.1 hq).1
    cases hsb : src[b]? with
    | none => rw [List.getElem?_eq_none_iff] at hsb; omega
    | some o =>
      cases o with
      | none =>
        obtain ⟨q', hq', hv'⟩ := hk.virt b hsb
        rw [hq] at hq'
        injection hq' with hq'
        subst hq'
        rw [hv] at hv'
        cases hv'
      | some id =>
        obtain ⟨h1, _, p, q', h2, h3, h4, h5, h6⟩ := hk.own b id hsb
        rw [hq] at h3
        injection h3 with h3
        subst h3
        have hpv : p.virt = false := by rw [← h5]; exact hv
        exact ⟨id, p, rfl, h1, h2, h4, hpv, h6 hpv⟩
  have hmap : (fn.results.mapM (resOne a'.tmps)).run P w' = .ok us.toArray w' := by
    have h0 := hrun
    rw [← hres] at h0
    rw [Array.mapM_eq_mapM_toList, Sem.run_map, h0]
    rfl
  have hpost : a'.defers = [] ∧ ∃ v, (results fn a'.tmps).run P w' = .ok v w' ∧ (IO w w' ∧ w.heap.size ≤ w'.heap.size ∧ (∀ b, b < w.heap.size → w'.heap[b]? = w.heap[b]?) ∧
      ∃ I'' : Nat → Prop, (∀ b, I b → I'' b) ∧ (∀ b, I'' b → I b ∨ w.heap.size ≤ b) ∧ (∀ b, I'' b → b < w'.heap.size) ∧ ∃ pls, Res (rcW (statOf E S) I'' w') w w' b0 (packA (encEnv rs b0 y)) (encHeap rs b0 y) v pls) := by
    refine ⟨h'.defers, if h : us.toArray.size = 1 then us.toArray[0] else .tuple us.toArray, ?_, h'.io, h'.grow, h'.same, heldBy I' L' ids, fun b hb => .inl (h'.i0 b hb), ?_, ?_, pls, ?_⟩
    · rw [results_eq]
      simp only [Sem.run_bind, hmap, Result.andThen_ok, Sem.run_pure]
    · intro b hb
      rcases hb with hb | ⟨id, p, _, hp, hv, rfl⟩
      · exact h'.iN b hb
      · exact .inr (h'.own id p hp hv).1
    · intro b hb
      rcases hb with hb | ⟨id, p, _, hp, hv, rfl⟩
      · exact h'.imm b hb
      · exact (h'.own id p hp hv).2
    · refine ⟨hk.len.1.trans hk.len.2, fun L2 ha => ?_, hk.blk, fun j q hq hv => ?_, fun i j p q hp hq hv hv' hb => ?_⟩
      · have hrep3 := hs L2 ha
        generalize encEnv rs b0 y = l' at hrep3
        cases l' with
        | nil =>
          simp only [RepL] at hrep3
          subst hrep3
          simp [packA, Rep, RepL]
        | cons y tl =>
          cases tl with
          | nil =>
            simp only [RepL] at hrep3
            obtain ⟨u, t0, rfl, hu, rfl⟩ := hrep3
            exact hu
          | cons z tl =>
            have hl2 := hrep3.length
            have : us.toArray.size ≠ 1 := by simp at hl2 ⊢; omega
            simp only [packA, Rep, dif_neg this]
            exact ⟨us.toArray, rfl, hrep3⟩
      · obtain ⟨id, p0, _, hid, hp0, hb0, hv0, hI0⟩ := hsrc j q hq hv
        have ho := h'.own id p0 hp0 hv0
        rw [hb0]
        refine ⟨ho.1, ho.2, fun hI => ?_⟩
        rcases hI with hI | ⟨id2, p2, hid2, hp2, hv2, hb2⟩
        · exact hI0 hI
        · have := h'.inj id id2 p0 p2 hp0 hp2 hv0 hv2 hb2
          rw [this] at hid
          exact hid hid2
      · obtain ⟨id, p0, hs0, _, hp0, hb0, hv0, _⟩ := hsrc i p hp hv
        obtain ⟨id', p0', hs0', _, hp0', hb0', hv0', _⟩ := hsrc j q hq hv'
        have := h'.inj id id' p0 p0' hp0 hp0' hv0 hv0' (by rw [← hb0, ← hb0']; exact hb)
        subst this
        exact hk.inj i j id hs0 hs0'
  cases x with
  | normal => exact hpost
  | ret => exact hpost
  | exit id => exact absurd rfl (hx id)

/-- A FUNCTION -/
theorem fun_specJ (hE : EnvOK P E) (hm : P.follows .mixedOrders = true) {cs : List CallSpec} (hcs : CallsOK P E S cs) {f : FuncId} {fi : FnI} (hf : E.fn f = some fi) {ls : List LoopSpec} (hls : LoopsOK P E S (loopsOf fi.body) ls) {js : Joins}
    (hok : codeOK fi.body = true) {ps : List Ty} {rs : List Slot} {x : Val (rowTy ps)} {y : Val (slotsTy rs)} (e : funJK E cs ls js fi ps rs x = some y) : FCon P E S f ps rs x y := by
  unfold funJK funJKA at e
  obtain ⟨z, s, hcode, e⟩ := runJK_sound hE hm hcs hls fi.body 0 0 _ _ _ y hok (fun i d h => by simpa using h) e
  have fin : (∀ id, z ≠ .exit id) → (finA E fi rs s).runK (callKt E.toNames cs) s.rd [] (fun y _ => some y) = some y → FCon P E S f ps rs x y := by
    intro hz e
    rw [HM.runK_eq (callKt_eq E.toNames cs)] at e
    cases hd : (finA E fi rs s).run (callT E.toNames cs) s.rd with
    | none => rw [hd] at e; cases e
    | some q =>
      obtain ⟨r, l⟩ := q
      rw [hd] at e
      simp only [Option.bind_some, Option.some.injEq] at e
      subst e
      exact fn_soundC hE hf hz hcode hd
  cases z with
  | normal => exact fin (by simp) e
  | ret => exact fin (by simp) e
  | exit id => cases e

end
end Go.Eng
