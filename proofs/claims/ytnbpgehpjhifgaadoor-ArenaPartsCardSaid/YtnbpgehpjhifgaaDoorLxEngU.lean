/-
  The abstract machine, part 20: a region whose order is drawn.
-/
import Derived.Test.YtnbpgehpjhifgaaDoorLxEngT
namespace Go.Eng

/-- what a region must be like whose order is drawn: edges go back; what touches the same slot is bound -/
def edgesOK (ops : List Oper) : Bool := (List.range ops.length).all fun i => match ops[i]? with
  | some o => o.after.toList.all fun e => !Region.binds .any e || decide (e.on < i)
  | none => true

def apartOK (ops : Array Oper) (ms : List Nat) : Bool := (List.range ops.size).all fun i => (List.range i).all fun j => match ops[j]?, ops[i]? with
  | some x, some y => x.apart ops y || (ms.getD i 0).testBit j
  | _, _ => true

def drawOK (ops : Array Oper) : Bool := edgesOK ops.toList && apartOK ops (masks ops.toList [])

section
variable {E : Env} {call : CallF} {ops : List Oper} {base : Nat} {s0 : St}

/-- the states, one after the other -/
def stA (E : Env) (call : CallF) (ops : List Oper) (base : Nat) (s0 : St) : Nat → St
  | 0 => s0
  | k + 1 => match (ops[k]?).bind fun o => stepA E call ops (base + widL (ops.take k)) k o (stA E call ops base s0 k) with
    | some (s', _) => s'
    | none => stA E call ops base s0 k

def fpA (E : Env) (call : CallF) (ops : List Oper) (base : Nat) (s0 : St) (k : Nat) : Option (Dl × List Nat) :=
  (ops[k]?).bind fun o => ((stepH E ops (base + widL (ops.take k)) o (stA E call ops base s0 k).env).run call (stA E call ops base s0 k).rd).map fun x => (dlOf x.1, x.2)

def meet (f g : Fp) : Bool := meets f.ws g.rs || meets f.ws g.ws || meets f.rs g.ws

def mkFp (k : Nat) (x : Dl × List Nat) : Fp := ⟨k, x.2, x.1.wr.map (·.1.ix)⟩

theorem mem_consF {f g : Fp} {l : List Fp} (h : g ∈ l) : g ∈ consF f l := by
  unfold consF
  split
  · exact h
  · exact List.mem_cons_of_mem _ h

theorem mem_consF_self {f : Fp} {l : List Fp} : f ∈ consF f l ∨ (f.rs = [] ∧ f.ws = []) := by
  unfold consF
  split
  · rename_i h1 h2
    exact .inr ⟨h1, h2⟩
  · exact .inl (by simp)

theorem fpsOK_tail {ms : List Nat} {f : Fp} {l : List Fp} (h : fpsOK ms (consF f l) = true) : fpsOK ms l = true := by
  unfold consF at h
  split at h
  · exact h
  · simp only [fpsOK, Bool.and_eq_true] at h
    exact h.2

theorem fpsOK_head {ms : List Nat} {f g : Fp} {l : List Fp} (h : fpsOK ms (consF f l) = true) (hg : g ∈ l) (hm : meet f g = true) : (ms.getD g.i 0).testBit f.i = true := by
  unfold consF at h
  split at h
  · rename_i h1 h2
    simp [meet, meets, h1, h2] at hm
  · simp only [fpsOK, Bool.and_eq_true, List.all_eq_true, Bool.or_eq_true, Bool.not_eq_true'] at h
    rcases h.1 g hg with h0 | h0
    · simp only [meet] at hm
      rw [h0] at hm
      cases hm
    · exact h0

theorem widL_succ : ∀ {os : List Oper} {k : Nat} {o : Oper}, os[k]? = some o → widL (os.take (k + 1)) = widL (os.take k) + wid o.op
  | [], _, _, h => by simp at h
  | x :: r, 0, o, h => by
    simp only [List.getElem?_cons_zero, Option.some.injEq] at h
    subst h
    simp [widL]
  | x :: r, k + 1, o, h => by
    have := widL_succ (os := r) (k := k) (o := o) (by simpa using h)
    simp only [List.take_succ_cons, widL] at this ⊢
    omega

theorem widL_mono {os : List Oper} {i j : Nat} {o : Oper} (ho : os[i]? = some o) (hij : i < j) : widL (os.take i) + wid o.op ≤ widL (os.take j) := by
  have := widL_le (os.take j) i o (by rw [List.getElem?_take_of_lt hij]; exact ho)
  rw [List.take_take, Nat.min_eq_left (by omega)] at this
  exact this

/-- what a run in the order of the text comes to -/
theorem runOps_trace : ∀ (os : List Oper) (i : Nat) (t : St) (l : List Fp), os = ops.drop i → i ≤ ops.length → runOps E call ops (base + widL (ops.take i)) i os (stA E call ops base s0 i) = some (t, l) →
    t = stA E call ops base s0 ops.length ∧ (∀ k, i ≤ k → k < ops.length → ∃ o δ rs, ops[k]? = some o ∧ (stepH E ops (base + widL (ops.take k)) o (stA E call ops base s0 k).env).run call (stA E call ops base s0 k).rd = some (δ, rs) ∧
      stA E call ops base s0 (k + 1) = (stA E call ops base s0 k).app o.dst (dlOf δ) ∧ fpA E call ops base s0 k = some (dlOf δ, rs) ∧ (mkFp k (dlOf δ, rs) ∈ l ∨ (rs = [] ∧ (dlOf δ).wr.map (·.1.ix) = []))) ∧
      (∀ ms, fpsOK ms l = true → ∀ j k x y, i ≤ j → j < k → k < ops.length → fpA E call ops base s0 j = some x → fpA E call ops base s0 k = some y → meet (mkFp j x) (mkFp k y) = true → (ms.getD k 0).testBit j = true)
  | [], i, t, l, hos, hle, e => by
    have : i = ops.length := by
      have h0 := congrArg List.length hos
      simp at h0
      omega
    simp only [runOps, Option.some.injEq, Prod.mk.injEq] at e
    obtain ⟨rfl, rfl⟩ := e
    refine ⟨by rw [this], fun k h1 h2 => by omega, fun ms _ j k x y h1 h2 h3 => by omega⟩
  | o :: r, i, t, l, hos, hle, e => by
    have hlt : i < ops.length := by
      have h0 := congrArg List.length hos
      simp at h0
      omega
    have hoi : ops[i]? = some o := by
      have h0 : (ops.drop i)[0]? = some o := by rw [← hos]; rfl
      rw [List.getElem?_drop] at h0
      exact h0
    have hr : r = ops.drop (i + 1) := by
      rw [← List.tail_drop, ← hos]
      rfl
    simp only [runOps] at e
    split at e
    · rename_i s' f hstep
      have hstep0 := hstep
      unfold stepA at hstep
      split at hstep
      · rename_i δ rs hst
        simp only [Option.some.injEq, Prod.mk.injEq] at hstep
        obtain ⟨rfl, rfl⟩ := hstep
        have hnext : stA E call ops base s0 (i + 1) = (stA E call ops base s0 i).app o.dst (dlOf δ) := by
          simp only [stA, hoi, Option.bind_some, hstep0]
        have hfp : fpA E call ops base s0 i = some (dlOf δ, rs) := by
          simp only [fpA, hoi, Option.bind_some, hst, Option.map_some]
        split at e
        · rename_i t' l' hrest
          simp only [Option.some.injEq, Prod.mk.injEq] at e
          obtain ⟨rfl, rfl⟩ := e
          rw [← hnext, Nat.add_assoc, ← widL_succ hoi] at hrest
          obtain ⟨h1, h2, h3⟩ := runOps_trace r (i + 1) _ _ hr hlt hrest
          refine ⟨h1, fun k hk1 hk2 => ?_, fun ms hms j k x y hj hjk hk hx hy hm => ?_⟩
          · by_cases hki : k = i
            · subst hki
              exact ⟨o, δ, rs, hoi, hst, hnext, hfp, mem_consF_self⟩
            · obtain ⟨o', δ', rs', g1, g2, g3, g4, g5⟩ := h2 k (by omega) hk2
              refine ⟨o', δ', rs', g1, g2, g3, g4, g5.imp mem_consF id⟩
          · by_cases hji : j = i
            · subst hji
              rw [hfp] at hx
              injection hx with hx
              subst hx
              obtain ⟨o', δ', rs', g1, g2, g3, g4, g5⟩ := h2 k (by omega) hk
              rw [g4] at hy
              injection hy with hy
              subst hy
              rcases g5 with g5 | ⟨g5, g6⟩
              · exact fpsOK_head hms g5 hm
              · have : meet (mkFp j (dlOf δ, rs)) (mkFp k (dlOf δ', rs')) = false := by
                  simp only [meet, mkFp, g5, g6, meets]
                  simp
                rw [this] at hm
                cases hm
            · exact h3 ms (fpsOK_tail hms) j k x y (by omega) hjk hk hx hy hm
        · cases e
      · cases hstep
    · cases e

theorem meets_of {a b : List Nat} {x : Nat} (ha : x ∈ a) (hb : x ∈ b) : meets a b = true := by
  simp only [meets, List.any_eq_true]
  exact ⟨x, ha, by simpa using hb⟩

end

theorem filter_one {i : Nat} {p q : Nat → Bool} (hp : p i = true) (hq : q i = false) (hne : ∀ j, j ≠ i → q j = p j) : ∀ (l : List Nat), l.Nodup → i ∈ l → (l.filter q).length + 1 = (l.filter p).length
  | [], _, h => by cases h
  | x :: r, hn, h => by
    have hnr := (List.nodup_cons.1 hn)
    by_cases hx : x = i
    · subst hx
      have : r.filter q = r.filter p := List.filter_congr fun j hj => hne j fun e => hnr.1 (e ▸ hj)
      rw [List.filter_cons_of_pos hp, List.filter_cons_of_neg (by simp [hq]), this]
      rfl
    · have hm : i ∈ r := by
        rcases List.mem_cons.1 h with h | h
        · exact absurd h.symm hx
        · exact h
      have ih := filter_one hp hq hne r hnr.2 hm
      by_cases hpx : p x = true
      · rw [List.filter_cons_of_pos hpx, List.filter_cons_of_pos (by rw [hne x hx]; exact hpx)]
        simp only [List.length_cons]
        omega
      · rw [List.filter_cons_of_neg hpx, List.filter_cons_of_neg (by rw [hne x hx]; exact hpx)]
        exact ih

section
variable {c : Ctx} {I : Nat → Prop} {L : Ref → Option Pl} {s : St} {a : Act} {w : World} {call : CallF}

theorem draw_sound (h : Sim c I L s a w) (hE : EnvOK c.P c.E) (hW : WOK c.P c.E c.S c.w0) (hC : CallOK c.P c.E c.S call) {ops : Array Oper} {base : Nat} {Q : Exit → Act → World → Prop} {t : St} {l : List Fp}
    (hfree : ∀ k, k < widL ops.toList → s.heap[base + k]? = some none) (e : runOps c.E call ops.toList base 0 ops.toList s = some (t, l)) (hd : drawOK ops = true) (hf : fpsOK (masks ops.toList []) l = true)
    (hQ : ∀ I' L' a' w', Sim c I' L' t a' w' → Q .normal a' w') : wpAny c.P .any ops Q ops.size (Array.replicate ops.size false) a w := by
  obtain ⟨ht, htr, hfp⟩ := runOps_trace (s0 := s) (base := base) ops.toList 0 t l rfl (Nat.zero_le _) (by simpa [widL, stA] using e)
  simp only [drawOK, Bool.and_eq_true] at hd
  obtain ⟨hedge, hapart⟩ := hd
  have hlen : ops.toList.length = ops.size := Array.length_toList
  rw [hlen] at ht htr hfp
  have hms : ∀ j i, ((masks ops.toList []).getD j 0).testBit i = true → Ahead ops.toList i j := masks_sound ops.toList [] rfl (fun j i hj => by simp at hj)
  obtain ⟨D, hD⟩ : ∃ D : Nat → Dl, D = fun k => ((fpA c.E call ops.toList base s k).map (·.1)).getD (dlOf none) := ⟨_, rfl⟩
  obtain ⟨R, hR⟩ : ∃ R : Nat → List Nat, R = fun k => ((fpA c.E call ops.toList base s k).map (·.2)).getD [] := ⟨_, rfl⟩
  -- the states are those where all ahead in the text is done
  have hst : ∀ k, k ≤ ops.size → stA c.E call ops.toList base s k = part ops.toList D s (fun _ => true) k := by
    intro k
    induction k with
    | zero => intro _; rfl
    | succ k ih =>
      intro hk
      obtain ⟨o, δ, rs, g1, g2, g3, g4, _⟩ := htr k (Nat.zero_le _) (by omega)
      rw [g3, ih (by omega)]
      simp only [part]
      congr 1
      · simp [dstOf, g1]
      · rw [hD]; simp [g4]
  have hst' : ∀ k, k ≤ ops.size → ∀ m, k ≤ m → part ops.toList D s (fun _ => true) k = part ops.toList D s (fun j => decide (j < k)) m := by
    intro k hk m hm
    induction m with
    | zero =>
      have : k = 0 := by omega
      subst this
      rfl
    | succ m ih =>
      by_cases hkm : k = m + 1
      · subst hkm
        exact part_same _ fun j hj => by simp [hj]
      · rw [ih (by omega)]
        simp only [part]
        rw [show decide (m < k) = false from by simp; omega]
  -- the footprints
  have hfoot : ∀ k, k < ops.size → ∃ o δ rs, ops.toList[k]? = some o ∧ (stepH c.E ops.toList (base + widL (ops.toList.take k)) o (part ops.toList D s (fun j => decide (j < k)) ops.size).env).run call (part ops.toList D s (fun j => decide (j < k)) ops.size).rd = some (δ, rs) ∧ dlOf δ = D k ∧ rs = R k := by
    intro k hk
    obtain ⟨o, δ, rs, g1, g2, g3, g4, _⟩ := htr k (Nat.zero_le _) hk
    rw [hst k (by omega), hst' k (by omega) ops.size (by omega)] at g2
    exact ⟨o, δ, rs, g1, g2, by rw [hD]; simp [g4], by rw [hR]; simp [g4]⟩
  have hmeet : ∀ j k, j < k → k < ops.size → (∃ id, (id ∈ (D j).wr.map (·.1.ix) ∧ (id ∈ R k ∨ id ∈ (D k).wr.map (·.1.ix))) ∨ (id ∈ R j ∧ id ∈ (D k).wr.map (·.1.ix))) → Ahead ops.toList j k := by
    intro j k hjk hk hm
    obtain ⟨_, δ1, rs1, _, _, _, g4, _⟩ := htr j (Nat.zero_le _) (by omega)
    obtain ⟨_, δ2, rs2, _, _, _, g4', _⟩ := htr k (Nat.zero_le _) hk
    refine hms k j (hfp _ hf j k _ _ (Nat.zero_le _) hjk hk g4 g4' ?_)
    obtain ⟨id, hm⟩ := hm
    have e1 : D j = dlOf δ1 := by rw [hD]; simp [g4]
    have e2 : D k = dlOf δ2 := by rw [hD]; simp [g4']
    have e3 : R j = rs1 := by rw [hR]; simp [g4]
    have e4 : R k = rs2 := by rw [hR]; simp [g4']
    rw [e1, e2, e3, e4] at hm
    simp only [meet, mkFp, Bool.or_eq_true]
    rcases hm with ⟨h1, h2 | h2⟩ | ⟨h1, h2⟩
    · exact .inl (.inl (meets_of h1 h2))
    · exact .inl (.inr (meets_of h1 h2))
    · exact .inr (meets_of h1 h2)
  have hslot : ∀ j k x y, j < k → k < ops.size → ops[j]? = some x → ops[k]? = some y → ¬ Ahead ops.toList j k → x.apart ops y = true := by
    intro j k x y hjk hk hx hy hn
    simp only [apartOK, List.all_eq_true, List.mem_range] at hapart
    have := hapart k hk j hjk
    rw [hx, hy] at this
    simp only [Bool.or_eq_true] at this
    exact this.resolve_right fun hb => hn (hms k j hb)
  have hback : ∀ i o, ops.toList[i]? = some o → ∀ e, e ∈ o.after.toList → Region.binds .any e = true → e.on < i := by
    intro i o ho e he hb
    simp only [edgesOK, List.all_eq_true, List.mem_range] at hedge
    have := hedge i (List.getElem?_eq_some_iff.1 ho).1
    rw [ho] at this
    simp only [List.all_eq_true] at this
    have := this e he
    simpa [hb] using this
  -- no one writes a new place before its own operation has
  have hnew : ∀ i o, ops.toList[i]? = some o → ∀ id, base + widL (ops.toList.take i) ≤ id → id < base + widL (ops.toList.take i) + wid o.op → ∀ j, j < ops.size → id ∈ (D j).wr.map (·.1.ix) → i ≤ j ∧ (i < j → id ∈ R j ∧ id ∈ (D i).wr.map (·.1.ix)) := by
    intro i oi hoi id hid1 hid2 j
    have htot := widL_le _ _ _ hoi
    have hidf : s.heap[id]? = some none := by
      have := hfree (id - base) (by omega)
      rwa [show base + (id - base) = id from by omega] at this
    induction j using Nat.strongRecOn with
    | _ j ih =>
      intro hj hm
      obtain ⟨o, δ, rs, g1, g2, g3, g4⟩ := hfoot j hj
      have hin : (base + widL (ops.toList.take j) ≤ id ∧ id < base + widL (ops.toList.take j) + wid o.op) ∨ (id ∈ R j ∧ ∃ b, (part ops.toList D s (fun m => decide (m < j)) ops.size).rd (.l id) = some b) := by
        rcases stepH_inv g2 with ⟨δ', r1, rfl, e1, hwr, _⟩ | ⟨rfl, _⟩
        · have := hwr id (by rw [← g3] at hm; exact hm)
          rw [g4] at this
          exact this
        · rw [← g3] at hm
          simp [dlOf] at hm
      rcases hin with hin | ⟨hin, b, hb⟩
      · have : i = j := by
          rcases Nat.lt_trichotomy i j with hlt | rfl | hgt
          · have := widL_mono hoi hlt
            omega
          · rfl
          · have := widL_mono g1 hgt
            omega
        subst this
        exact ⟨Nat.le_refl _, fun h => by omega⟩
      · -- somebody wrote it
        have hb' := rdv_l.1 (show rdv _ (.l id) = some b from hb)
        have : ∃ m, m < j ∧ id ∈ (D m).wr.map (·.1.ix) := by
          refine Classical.byContradiction fun hno => ?_
          have := part_heap (ops := ops.toList) (D := D) (s0 := s) (p := fun m => decide (m < j)) (q := fun _ => false) (id := id) ops.size fun m hm hw => by
            have hmj : ¬ m < j := fun hlt => hno ⟨m, hlt, hw⟩
            simp [hmj]
          rw [hb'] at this
          have h0 : ∀ n, part ops.toList D s (fun _ => false) n = s := by
            intro n
            induction n with
            | zero => rfl
            | succ n ih => simp only [part]; exact ih
          rw [h0, hidf] at this
          cases this
        obtain ⟨m, hmj, hmw⟩ := this
        obtain ⟨h1, h2⟩ := ih m hmj (by omega) hmw
        refine ⟨by omega, fun _ => ⟨hin, ?_⟩⟩
        by_cases him : i = m
        · subst him; exact hmw
        · exact (h2 (by omega)).2
  -- some are done: one more
  have key : ∀ (fuel : Nat) (listed : Array Bool) (I : Nat → Prop) (L : Ref → Option Pl) (a : Act) (w : World), listed.size = ops.size → Closed ops.toList (fun j => listed.getD j false) →
      ((List.range ops.size).filter fun j => !listed.getD j false).length = fuel → Sim c I L (part ops.toList D s (fun j => listed.getD j false) ops.size) a w → wpAny c.P .any ops Q fuel listed a w := by
    have alldone : ∀ (listed : Array Bool) (I : Nat → Prop) (L : Ref → Option Pl) (a : Act) (w : World), (∀ j, j < ops.size → listed.getD j false = true) → Sim c I L (part ops.toList D s (fun j => listed.getD j false) ops.size) a w → Q .normal a w := by
      intro listed I L a w hall hs
      refine hQ I L a w ?_
      rw [ht, hst ops.size (Nat.le_refl _)]
      rw [part_same (q := fun _ => true) ops.size (fun j hj => hall j hj)] at hs
      exact hs
    intro fuel
    induction fuel with
    | zero =>
      intro listed I L a w hsz hcl hcount hs
      have hall : ∀ j, j < ops.size → listed.getD j false = true := by
        intro j hj
        have := List.length_eq_zero_iff.1 hcount
        rw [List.filter_eq_nil_iff] at this
        have := this j (List.mem_range.2 hj)
        simpa using this
      refine ⟨?_, alldone listed I L a w hall hs⟩
      rw [List.eq_nil_iff_forall_not_mem]
      intro j hj
      obtain ⟨h0, o, ho, _⟩ := mem_ready.1 hj
      have hjl := (Array.getElem?_eq_some_iff.1 ho).1
      have h1 := hall j hjl
      rw [Array.getD_eq_getD_getElem?] at h0 h1
      rw [Array.getElem?_eq_getElem (by omega)] at h0 h1
      simp only [Option.getD_some] at h0 h1
      rw [h0] at h1
      cases h1
    | succ fuel ih =>
      intro listed I L a w hsz hcl hcount hs
      refine ⟨fun hr => ?_, fun i hi => ?_⟩
      · refine alldone listed I L a w (fun j => ?_) hs
        induction j using Nat.strongRecOn with
        | _ j ihj =>
          intro hj
          refine Classical.byContradiction fun hn => ?_
          have hjo : ops[j]? = some ops[j] := Array.getElem?_eq_getElem hj
          have : j ∈ Region.ready .any ops listed := by
            refine mem_ready.2 ⟨?_, ops[j], hjo, fun e he hb => ?_⟩
            · have hn : listed.getD j false = false := by simpa using hn
              rw [Array.getD_eq_getD_getElem?] at hn ⊢
              rw [Array.getElem?_eq_getElem (by omega)] at hn ⊢
              exact hn
            · have hlt := hback j ops[j] (by rw [Array.getElem?_toList]; exact hjo) e (Array.mem_toList_iff.2 he) hb
              exact ihj e.on hlt (by omega)
          rw [hr] at this
          cases this
      · obtain ⟨hi0, o, ho, hall⟩ := mem_ready.1 hi
        have hil := (Array.getElem?_eq_some_iff.1 ho).1
        have hoL : ops.toList[i]? = some o := by rw [Array.getElem?_toList]; exact ho
        have hpi : listed.getD i false = false := by
          rw [Array.getD_eq_getD_getElem?] at hi0 ⊢
          rw [Array.getElem?_eq_getElem (by omega)] at hi0 ⊢
          exact hi0
        have hready : ∀ o', ops.toList[i]? = some o' → ∀ e, e ∈ o'.after.toList → Region.binds .any e = true → listed.getD e.on false = true := by
          intro o' ho' e he hb
          rw [hoL] at ho'
          injection ho' with ho'
          subst ho'
          exact hall e (Array.mem_toList_iff.1 he) hb
        -- whoever is bound to it, is done just if he stands ahead in the text
        have hbound : ∀ j, j ≠ i → (j < i → Ahead ops.toList j i) → (i < j → Ahead ops.toList i j) → listed.getD j false = decide (j < i) := by
          intro j hne h1 h2
          rcases Nat.lt_or_gt_of_ne hne with hlt | hgt
          · rw [(h1 hlt).ready hcl hready]
            simp [hlt]
          · have : listed.getD j false = false := by
              cases hb : listed.getD j false with
              | false => rfl
              | true =>
                have := (h2 hgt).closed hcl hb
                rw [hpi] at this
                cases this
            rw [this]
            simp; omega
        obtain ⟨o', δ, rs, g1, g2, g3, g4⟩ := hfoot i hil
        rw [hoL] at g1
        injection g1 with g1
        subst g1
        -- the operation sees the same
        have henv : ∀ d, d ∈ o.looksAt ops → (part ops.toList D s (fun j => listed.getD j false) ops.size).env[d]? = (part ops.toList D s (fun j => decide (j < i)) ops.size).env[d]? := by
          intro d hd
          refine part_env ops.size fun j hj hdst => ?_
          by_cases hji : j = i
          · subst hji; simp [hpi]
          · have hjo : ops[j]? = some ops[j] := Array.getElem?_eq_getElem hj
            have hdj : ops[j].dst = some d := by
              unfold dstOf at hdst
              rw [Array.getElem?_toList, hjo] at hdst
              simpa using hdst
            refine hbound j hji (fun hlt => ?_) (fun hgt => ?_)
            · refine Classical.byContradiction fun hn => ?_
              exact (Oper.apart_spec (hslot j i _ _ hlt hil hjo ho hn)).1 d hdj hd
            · refine Classical.byContradiction fun hn => ?_
              exact (Oper.apart_spec (hslot i j _ _ hgt hj ho hjo hn)).2.2 d hdj hd
        have hheap : ∀ id, id ∈ R i → (part ops.toList D s (fun j => listed.getD j false) ops.size).heap[id]? = (part ops.toList D s (fun j => decide (j < i)) ops.size).heap[id]? := by
          intro id hid
          refine part_heap ops.size fun j hj hw => ?_
          by_cases hji : j = i
          · subst hji; simp [hpi]
          · exact hbound j hji (fun hlt => hmeet j i hlt hil ⟨id, .inl ⟨hw, .inl hid⟩⟩) (fun hgt => hmeet i j hgt hj ⟨id, .inr ⟨hid, hw⟩⟩)
        have hstep : (stepH c.E ops.toList (base + widL (ops.toList.take i)) o (part ops.toList D s (fun j => listed.getD j false) ops.size).env).run call (part ops.toList D s (fun j => listed.getD j false) ops.size).rd = some (δ, rs) := by
          rw [stepH_congr c.E (base + widL (ops.toList.take i)) o henv]
          refine HM.run_local _ g2 fun id hid => ?_
          rw [g4] at hid
          exact rdH_congr (hheap _ hid)
        have hfr : ∀ q, q < wid o.op → (part ops.toList D s (fun j => listed.getD j false) ops.size).heap[base + widL (ops.toList.take i) + q]? = some none := by
          intro q hq
          have htot := widL_le _ _ _ hoL
          have := part_heap (ops := ops.toList) (D := D) (s0 := s) (p := fun j => listed.getD j false) (q := fun _ => false) (id := base + widL (ops.toList.take i) + q) ops.size fun j hj hw => by
            by_cases hji : j = i
            · subst hji; exact hpi
            · obtain ⟨h1, h2⟩ := hnew i o hoL _ (by omega) (by omega) j hj hw
              obtain ⟨h3, h4⟩ := h2 (by omega)
              rw [hbound j hji (fun hlt => by omega) (fun hgt => hmeet i j hgt hj ⟨_, .inl ⟨h4, .inl h3⟩⟩)]
              simp; omega
          rw [this]
          have h0 : ∀ n, part ops.toList D s (fun _ => false) n = s := by
            intro n
            induction n with
            | zero => rfl
            | succ n ih => simp only [part]; exact ih
          rw [h0, Nat.add_assoc]
          exact hfree _ (by omega)
        refine step_sound hs hE hW hC ho hfr hstep fun I' L' a' w' h' => ?_
        have hset : ∀ j, j ≠ i → (listed.setIfInBounds i true).getD j false = listed.getD j false := fun j hne => getD_set_ne false (Ne.symm hne)
        have hself : (listed.setIfInBounds i true).getD i false = true := by
          simp [hsz, hil]
        refine ih (listed.setIfInBounds i true) I' L' a' w' (by simp [hsz]) ?_ ?_ ?_
        · intro j o' ho' hj e he hb
          by_cases hji : j = i
          · subst hji
            exact getD_set_true (hready o' ho' e he hb)
          · simp only at hj
            rw [hset j hji] at hj
            exact getD_set_true (hcl j o' ho' hj e he hb)
        · have := filter_one (i := i) (p := fun j => !listed.getD j false) (q := fun j => !(listed.setIfInBounds i true).getD j false) (by simp [hpi]) (by rw [hself]; rfl) (fun j hne => by rw [hset j hne]) (List.range ops.size) List.nodup_range (List.mem_range.2 hil)
          omega
        · have hdst : dstOf ops.toList i = o.dst := by simp [dstOf, ho]
          rw [part_more (i := i) (p := fun j => listed.getD j false) hpi hself hset ops.size hil]
          · rw [hdst, ← g3]
            exact h'
          · intro j hij hj hp
            refine ⟨fun k hk hkj => ?_, fun id hid hidj => ?_⟩
            · have hjo : ops[j]? = some ops[j] := Array.getElem?_eq_getElem hj
              have hn : ¬ Ahead ops.toList i j := fun ha => by
                have := ha.closed hcl hp
                rw [hpi] at this
                cases this
              have hkj' : ops[j].dst = some k := by
                unfold dstOf at hkj
                rw [Array.getElem?_toList, hjo] at hkj
                simpa using hkj
              rw [hdst] at hk
              exact (Oper.apart_spec (hslot i j _ _ hij hj ho hjo hn)).2.1 k hk hkj'
            · have := (hmeet i j hij hj ⟨id, .inl ⟨hid, .inr hidj⟩⟩).closed hcl hp
              rw [hpi] at this
              cases this
  refine key ops.size (Array.replicate ops.size false) I L a w (by simp) ?_ ?_ ?_
  · intro j o ho hj e he hb
    simp only [Array.getD_eq_getD_getElem?, Array.getElem?_replicate] at hj
    split at hj <;> simp at hj
  · have : ((List.range ops.size).filter fun j => !(Array.replicate ops.size false).getD j false) = List.range ops.size := by
      rw [List.filter_eq_self]
      intro j hj
      simp only [Array.getD_eq_getD_getElem?, Array.getElem?_replicate]
      split <;> rfl
    rw [this, List.length_range]
  · have : part ops.toList D s (fun j => (Array.replicate ops.size false).getD j false) ops.size = s := by
      have h0 : ∀ n, part ops.toList D s (fun j => (Array.replicate ops.size false).getD j false) n = s := by
        intro n
        induction n with
        | zero => rfl
        | succ n ih =>
          simp only [part]
          split
          · rename_i hp
            simp only [Array.getD_eq_getD_getElem?, Array.getElem?_replicate] at hp
            split at hp <;> simp at hp
          · exact ih
      exact h0 _
    rw [this]
    exact h

end
end Go.Eng
