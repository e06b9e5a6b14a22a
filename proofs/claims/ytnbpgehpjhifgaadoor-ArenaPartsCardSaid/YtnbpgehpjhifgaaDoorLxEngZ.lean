/-
  The abstract machine, part 25: the world at a call's beginning; what a row asks at its end.
-/
import Derived.Test.YtnbpgehpjhifgaaDoorLxEngY
import Derived.LaidEql
import Derived.LaidLaws
import Derived.Carry
import Derived.ChangeShapes
namespace Go.Eng

/-- an error as errors.New makes it -/
def errD (nm : String) (text : List UInt8) : DataW Unit := .iface nm (.ptr (.agg [.lit (.string text)]))

def laidOf (nm : String) (ns : List (String × List UInt8 × Nat)) : List (String × DataW Unit) := ns.map fun x => (x.1, errD nm x.2.1)

/-- where the error lies that a variable holds -/
def errAt (w : World) (g : Nat) : Addr := match w.heap[g]? with
  | some (.cells cs _ _) => match cs.toList with
    | [.iface _ (.pointer (some a))] => a
    | _ => ⟨0, 0, none⟩
  | _ => ⟨0, 0, none⟩

/-- what a program is to have for its errors -/
structure ErrsOK (P : Program) (nm : String) (ti tp te ts : TypeId) : Prop where
  hi : ∃ ms, P.underlying ti = some (.interface ms)
  hrow : ∀ u, P.typeName? 3 u = some nm → u = tp
  hp : P.underlying tp = some (.pointer te)
  he : ∃ f : Field, P.underlying te = some (.struct #[f]) ∧ f.type = ts ∧ f.offset = 0
  hs : P.underlying ts = some .string
  hc : P.cellsOf te = 1
  hcs : P.cellsOf ts = 1
  info : ∃ i j, P.info? tp = some i ∧ i.comparable = true ∧ P.info? te = some j ∧ j.size ≠ 0

section
variable {P : Program} {nm : String} {ti tp te ts : TypeId}

theorem laid_errs (hO : ErrsOK P nm ti tp te ts) {W : World} : ∀ {ns : List (String × List UInt8 × Nat)} {ps : List MemPlace}, DataW.LaidVars P W (laidOf nm ns) ps →
    (∀ x, x ∈ ns → P.globalNamed x.1 = some x.2.2 ∧ (P.globals[x.2.2]?).map (·.type) = some ti) →
    (∀ b off, MemPlace.cell b off ∈ ps → (∃ c t, W.heap[b]? = some (.cells c t (0, 0))) ∧ ∀ u v, W.cell? ⟨b, off, none⟩ = some (.iface u v) → Value.okWide P W .any 0 u v) → ps.Nodup →
    (∀ x, x ∈ ns → (∃ T fz, W.heap[x.2.2]? = some (.cells #[.iface tp (.pointer (some (errAt W x.2.2)))] T fz)) ∧ MemPlace.cell (errAt W x.2.2).block (errAt W x.2.2).off ∈ ps) ∧
    (∀ x y, x ∈ ns → y ∈ ns → x.2.2 ≠ y.2.2 → errAt W x.2.2 ≠ errAt W y.2.2)
  | [], ps, _, _, _, _ => ⟨fun x hx => by simp at hx, fun x y hx => by simp at hx⟩
  | z :: ns, ps, h, hg, hrows, hnd => by
    obtain ⟨g0, t0, cs0, f0, p0, q0, hg0, ht0, hv0, hd0, hrest, e0⟩ := h
    obtain ⟨hz, hzt⟩ := hg z (by simp)
    have hg0 : P.globalNamed z.1 = some g0 := hg0
    obtain rfl := Option.some.inj (hz.symm.trans hg0)
    obtain rfl := Option.some.inj (hzt.symm.trans ht0)
    subst e0
    obtain ⟨l0⟩ := cs0
    have ok0 : ∀ u v, l0 = [.iface u v] → Value.okWide P W .any 0 u v := fun u v e => by
      subst e
      exact (hrows z.2.2 0 (by simp [MemPlace.row])).2 u v (by simpa using World.var?_cell hz hv0 0)
    obtain ⟨ms, hi⟩ := hO.hi
    obtain ⟨f, he, hft, hfo⟩ := hO.he
    obtain ⟨a0, s0, rfl, hc0, hs0, hz0, rfl⟩ := errorString_of_trod hi hO.hrow hO.hp he hft hfo hO.hs hO.hc hO.hcs hd0 ok0
    have hnd' := List.nodup_append.1 hnd
    obtain ⟨h1, h2⟩ := laid_errs hO (ns := ns) hrest (fun x hx => hg x (by simp [hx])) (fun b off hb => hrows b off (List.mem_append_right _ hb)) hnd'.2.1
    obtain ⟨T0, fz0, hh0⟩ : ∃ T fz, W.heap[z.2.2]? = some (.cells #[.iface tp (.pointer (some a0))] T fz) := by
      unfold World.var? at hv0
      rw [hz] at hv0
      simp only [Option.bind_some] at hv0
      split at hv0
      · rename_i cs T fz hh
        injection hv0 with hv0
        subst hv0
        exact ⟨T, fz, hh⟩
      · cases hv0
    have ha : errAt W z.2.2 = a0 := by simp [errAt, hh0]
    have hmem : MemPlace.cell a0.block a0.off ∈ MemPlace.row ⟨z.2.2, 0, none⟩ (#[Value.iface tp (.pointer (some a0))]).size ++ MemPlace.row a0 1 := List.mem_append_right _ (by simp [MemPlace.row])
    have hne : ∀ y, y ∈ ns → errAt W z.2.2 ≠ errAt W y.2.2 := by
      intro y hy e
      obtain ⟨_, hm⟩ := h1 y hy
      rw [← e, ha] at hm
      exact hnd'.2.2 _ hmem _ hm rfl
    refine ⟨fun x hx => ?_, fun x y hx hy hxy => ?_⟩
    · rcases List.mem_cons.1 hx with rfl | hx
      · rw [ha]
        exact ⟨⟨T0, fz0, hh0⟩, List.mem_append_left _ hmem⟩
      · obtain ⟨g1, g2⟩ := h1 x hx
        exact ⟨g1, List.mem_append_right _ g2⟩
    · rcases List.mem_cons.1 hx with hx | hx <;> rcases List.mem_cons.1 hy with hy | hy
      · rw [hx, hy] at hxy; exact absurd rfl hxy
      · rw [hx]; exact hne y hy
      · rw [hy]; exact fun e => hne x hx e.symm
      · exact h2 x y hx hy hxy

/-- what is so from the beginning -/
def iniOf (W : World) : Ini := ⟨errAt W, fun b => b < W.heap.size⟩

/-- THE WORLD AT A CALL's BEGINNING is as the machine takes it to be. -/
theorem laid_wok (hO : ErrsOK P nm ti tp te ts) {E : Env} {ns : List (String × List UInt8 × Nat)} (hg : ∀ x, x ∈ ns → P.globalNamed x.1 = some x.2.2 ∧ (P.globals[x.2.2]?).map (·.type) = some ti)
    (hglob : ∀ g row, E.glob g = some row → row = [.er (.s g)] ∧ ∃ x, x ∈ ns ∧ x.2.2 = g) (ht : E.errT = tp) (hne : E.atT ≠ E.errT) {W : World} (h : laidMet P (laidOf nm ns) W) : WOK P E (iniOf W) W := by
  obtain ⟨ps, hl, hnd, hrows⟩ := h
  obtain ⟨h1, h2⟩ := laid_errs hO hl hg hrows hnd
  refine ⟨fun g row hr => ?_, fun w' hw t ms hms g g' hg1 hg2 => ?_, hne⟩
  · obtain ⟨rfl, x, hx, rfl⟩ := hglob g row hr
    obtain ⟨⟨T, fz, hh⟩, _⟩ := h1 x hx
    refine ⟨lt_of_heap hh, _, T, fz, hh, ?_⟩
    simp only [RepL, Rep, RepE]
    exact ⟨_, [], rfl, ⟨hr, by show _ = Value.iface E.errT _; rw [ht]; rfl⟩, rfl⟩
  · obtain ⟨_, x, hx, rfl⟩ := hglob g _ hg1
    obtain ⟨_, y, hy, rfl⟩ := hglob g' _ hg2
    obtain ⟨i, j, hinfo, hcomp, hte, hsz⟩ := hO.info
    rw [ht]
    by_cases e : x.2.2 = y.2.2
    · rw [e, decide_eq_true rfl]
      exact run_equalIn_iface_ptr_same w' 9998 _ hms hO.hp hinfo hcomp hte
    · rw [decide_eq_false e]
      obtain ⟨c1, T1, hc1⟩ := (hrows _ _ (h1 x hx).2).1
      obtain ⟨c2, T2, hc2⟩ := (hrows _ _ (h1 y hy).2).1
      refine run_equalIn_iface_ptr_other (ca := c1) (cb := c2) (ta := T1) (tb := T2) w' 9998 hms hO.hp hinfo hcomp hte hsz (h2 x y hx hy e) ?_ ?_
      · exact (hw _ (lt_of_heap hc1)).trans hc1
      · exact (hw _ (lt_of_heap hc2)).trans hc2

end

/-- tables of nothing -/
def noT (ks : List (List Cell)) : (tk : List Nat) → Val (tabsTy ks tk)
  | [] => ()
  | k :: r => (([] : List (Val (rowsTy (ks.getD k [])))), noT ks r)

theorem entryH_none {E : Env} {tk : List Nat} {k : Nat} {b : Blk} (h : (entryH E tk (encTabs E.kinds tk (noT E.kinds tk)))[k]? = some (some b)) : ∃ cs, b = tab0 cs := by
  have key : ∀ (tk : List Nat) (h0 : List (Option Blk)), (∀ (k : Nat) (b : Blk), h0[k]? = some (some b) → ∃ cs, b = tab0 cs) → ∀ (k : Nat) (b : Blk), (putK h0 tk (encTabs E.kinds tk (noT E.kinds tk)))[k]? = some (some b) → ∃ cs, b = tab0 cs := by
    intro tk
    induction tk with
    | nil => intro h0 hh k b hb; exact hh k b (by simpa only [encTabs, putK] using hb)
    | cons k0 r ih =>
      intro h0 hh k b hb
      simp only [encTabs, noT, putK] at hb
      refine ih _ (fun k b hb => ?_) k b hb
      rw [List.getElem?_set] at hb
      split at hb
      · split at hb
        · simp only [Option.some.injEq] at hb
          exact ⟨_, hb.symm⟩
        · cases hb
      · exact hh k b hb
  refine key tk _ (fun k b hb => ?_) k b h
  rw [List.getElem?_map] at hb
  obtain ⟨cs, _, e⟩ := Option.map_eq_some_iff.1 hb
  injection e with e
  exact ⟨cs, e.symm⟩

/-- A LAW's CALL -/
theorem law_call {P : Program} {E : Env} {W : World} {f : FuncId} {as : List AV} {vs : Array Value} (hW : WOK P E (iniOf W) W) (hargs : RepL (rcW (statOf E (iniOf W)) (fun b => b < W.heap.size) noL W) noL as vs.toList)
    {b : Bool} {ts : List Blk} (hC : Con P E (iniOf W) f as (encTabs E.kinds (E.ks f) (noT E.kinds (E.ks f))) E.kinds.length (.v (.bool b)) ts []) : Calls P f vs W fun e W' => e = .returned (.bool b) ∧ RowKit.Below W.heap.size W W' := by
  obtain ⟨L, hL⟩ : ∃ L : Ref → Option Pl, L = fun | .l id => if id < E.kinds.length then some ⟨0, 0, 0, 0, 0, true⟩ else none | .o _ _ _ => none := ⟨_, rfl⟩
  have hLl : ∀ id, id < E.kinds.length → L (.l id) = some ⟨0, 0, 0, 0, 0, true⟩ := fun id h => by rw [hL]; exact if_pos h
  have hLn : ∀ id p, L (.l id) = some p → id < E.kinds.length ∧ p.virt = true := fun id p h => by
    rw [hL] at h
    simp only at h
    split at h
    · rename_i hlt
      injection h with h
      subst h
      exact ⟨hlt, rfl⟩
    · cases h
  have hLo : ∀ k i q, L (.o k i q) = none := fun k i q => by rw [hL]
  have hlen : ∀ id b, (entryH E (E.ks f) (encTabs E.kinds (E.ks f) (noT E.kinds (E.ks f))))[id]? = some (some b) → id < E.kinds.length := fun id b h => by
    have := (List.getElem?_eq_some_iff.1 h).1
    rw [entryH_length] at this
    exact this
  have hs : Sim ⟨P, E, iniOf W, W, (fun b => b < W.heap.size), (fun _ => False), fun _ _ => none⟩ (fun b => b < W.heap.size) L ⟨as, entryH E (E.ks f) (encTabs E.kinds (E.ks f) (noT E.kinds (E.ks f)))⟩ { tmps := vs, defers := [] } W := by
    refine ⟨?_, rfl, fun r x hx => ?_, fun r p hp => ?_, fun r p hp hv => ?_, fun r r' p p' hp hp' hv hv' hb => ?_, fun b hb => hb, fun b hb => hb, fun b hb => .inl hb, fun b _ _ => rfl, fun b hb => ⟨hb, fun h => h⟩, (fun k i p hp => by cases hp), Nat.le_refl _, IO.refl W⟩
    · have hr : RLe (rcW (statOf E (iniOf W)) (fun b => b < W.heap.size) noL W) (rcW (statOf E (iniOf W)) (fun b => b < W.heap.size) L W) := ⟨fun _ h => h, fun _ _ _ => rfl, rfl, (fun k i b hb => by simp [rcW, hOf] at hb)⟩
      show RepL (rcW (statOf E (iniOf W)) (fun b => b < W.heap.size) L W) L as vs.toList
      exact hargs.mono hr (fun _ _ e => by cases e)
    · cases r with
      | l id =>
        have hx' := rdv_l.1 hx
        obtain ⟨cs, rfl⟩ := entryH_none hx'
        exact ⟨_, hLl id (hlen id _ hx'), ⟨rfl, rfl⟩, fun _ hv => by cases hv⟩
      | o k i q =>
        exfalso
        simp only [rdv] at hx
        split at hx
        · rename_i b hb
          obtain ⟨cs, rfl⟩ := entryH_none hb
          simp [tab0] at hx
        · cases hx
    · cases r with
      | l id =>
        obtain ⟨hlt, _⟩ := hLn id p hp
        have hl2 : id < (entryH E (E.ks f) (encTabs E.kinds (E.ks f) (noT E.kinds (E.ks f)))).length := by rw [entryH_length]; exact hlt
        have key : ∀ (tk : List Nat) (bs : List Blk) (h0 : List (Option Blk)), (∀ o, o ∈ h0 → o.isSome = true) → ∀ o, o ∈ putK h0 tk bs → o.isSome = true := by
          intro tk
          induction tk with
          | nil => intro bs h0 hh o ho; exact hh o (by simpa only [putK] using ho)
          | cons k0 r ih =>
            intro bs h0 hh o ho
            cases bs with
            | nil => exact hh o (by simpa only [putK] using ho)
            | cons b0 bs =>
              simp only [putK] at ho
              refine ih bs _ (fun o ho => ?_) o ho
              rcases List.mem_or_eq_of_mem_set ho with ho | rfl
              · exact hh o ho
              · rfl
        have := key (E.ks f) (encTabs E.kinds (E.ks f) (noT E.kinds (E.ks f))) (E.kinds.map fun cs => some (tab0 cs)) (fun o ho => by
          obtain ⟨cs, _, rfl⟩ := List.mem_map.1 ho
          rfl) _ (List.getElem_mem hl2)
        obtain ⟨b, hb⟩ := Option.isSome_iff_exists.1 this
        exact ⟨b, rdv_l.2 (by rw [List.getElem?_eq_getElem hl2]; exact congrArg some hb)⟩
      | o k i q => rw [hLo] at hp; cases hp
    · cases r with
      | l id => rw [(hLn id p hp).2] at hv; cases hv
      | o k i q => rw [hLo] at hp; cases hp
    · cases r with
      | l id => rw [(hLn id p hp).2] at hv; cases hv
      | o k i q => rw [hLo] at hp; cases hp
  refine (hC W _ L _ _ vs hW (Nat.le_refl _) hs).mono fun e W' he => ?_
  cases e with
  | returned v =>
    obtain ⟨I', L', h'⟩ := he
    have hr := h'.env
    simp only [RepL, Rep] at hr
    obtain ⟨y, t, e1, rfl, rfl⟩ := hr
    have e1 : v = .bool b := by simpa using e1
    subst e1
    exact ⟨rfl, h'.io.1, h'.io.2.1, h'.io.2.2, h'.grow, fun b hb => h'.same b hb fun h => h⟩
  | panicked ch => exact he.elim
  | outgrown => exact he.elim

/-- all arguments read as they did -/
theorem trodAll_below {H : Type} {enc : TypeId × Value → H} {P : Program} (hl : laidOutB P = true) {W W' : World} (hb : RowKit.Below W.heap.size W W') : ∀ {ts : List TypeId} {vs : List Value} {ds : List (DataW H)} {ps : List MemPlace},
    (∀ t, t ∈ ts → P.readableRec t = true ∧ t < P.types.size) → (∀ x, x ∈ ps → x.block < W.heap.size) → DataW.TrodAll enc P W 0 (fun _ => true) true ts vs ds ps → DataW.TrodAll enc P W' 0 (fun b => decide (b < W.heap.size)) true ts vs ds ps
  | [], vs, ds, ps, _, _, h => by
    obtain ⟨rfl, rfl, rfl⟩ := ChangeShapes.trodAll_nil h
    rfl
  | t :: ts, vs, ds, ps, ht, hp, h => by
    obtain ⟨v, vs', d, ds', p, q, rfl, rfl, rfl, h1, h2⟩ := ChangeShapes.trodAll_cons h
    exact ⟨p, q, RowKit.Below.trod hl (ht t (by simp)).1 (ht t (by simp)).2 h1 hb (fun x hx => hp x (List.mem_append_left _ hx)), trodAll_below hl hb (fun t h => ht t (by simp [h])) (fun x hx => hp x (List.mem_append_right _ hx)) h2, rfl⟩

end Go.Eng
