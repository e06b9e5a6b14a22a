/-
  Texts of the proof, one behind the other.
-/
import Derived.Test.YtpekhdbkekiblaaGreatDoorLxPb
import Derived.Laws.Externs

/-
  The abstract machine, part 15: a slice appended to.
-/
namespace Go.Eng

section
variable {c : Ctx} {I : Nat → Prop} {L : Ref → Option Pl} {s : St} {a : Act} {w : World} {call : CallF}

/-- a slice's elements, cell behind cell -/
def Flat (R : RC) (u : Ty) (l : List (Val u)) (F : List Value) : Prop := F.length = l.length * u.size ∧ ∀ k, k < l.length → RepT R u (l.getD k (dfl u)) ((F.drop (k * u.size)).take u.size)

theorem Flat.nil (R : RC) (u : Ty) : Flat R u [] [] := ⟨by simp, fun k hk => by simp at hk⟩

theorem Flat.append {R : RC} {u : Ty} {l m : List (Val u)} {F G : List Value} (h : Flat R u l F) (g : Flat R u m G) : Flat R u (l ++ m) (F ++ G) := by
  refine ⟨by simp [h.1, g.1, Nat.add_mul], fun k hk => ?_⟩
  simp only [List.length_append] at hk
  by_cases hkl : k < l.length
  · have h1 : (l ++ m).getD k (dfl u) = l.getD k (dfl u) := by simp [List.getD_eq_getElem?_getD, List.getElem?_append_left hkl]
    rw [h1]
    have hle : (k + 1) * u.size ≤ l.length * u.size := Nat.mul_le_mul_right _ hkl
    rw [Nat.add_mul, Nat.one_mul] at hle
    have h2 : ((F ++ G).drop (k * u.size)).take u.size = (F.drop (k * u.size)).take u.size := by
      rw [List.drop_append_of_le_length (by rw [h.1]; omega), List.take_append_of_le_length (by rw [List.length_drop, h.1]; omega)]
    rw [h2]
    exact h.2 k hkl
  · have h1 : (l ++ m).getD k (dfl u) = m.getD (k - l.length) (dfl u) := by simp [List.getD_eq_getElem?_getD, List.getElem?_append_right (Nat.le_of_not_lt hkl)]
    rw [h1]
    have h2 : (F ++ G).drop (k * u.size) = G.drop ((k - l.length) * u.size) := by
      rw [List.drop_append, List.drop_eq_nil_of_le (by rw [h.1]; exact Nat.mul_le_mul_right _ (Nat.le_of_not_lt hkl)), h.1, List.nil_append, Nat.sub_mul]
    rw [h2]
    exact g.2 _ (by omega)

theorem Flat.mono {R R' : RC} (h : RLe R R') {u : Ty} {l : List (Val u)} {F : List Value} (f : Flat R u l F) : Flat R' u l F := ⟨f.1, fun k hk => (f.2 k hk).mono h⟩

/-- the cells of elements that lie somewhere -/
theorem flat_of_rows {R : RC} {u : Ty} {l : List (Val u)} {b o : Nat} (h : ∀ i, i < l.length → ∃ d, RepT R u (l.getD i (dfl u)) d ∧ At R d b (o + i * u.size)) : ∃ F, Flat R u l F ∧ At R F b o := by
  refine ⟨(List.range (l.length * u.size)).map fun j => (R.C b (o + j)).getD undef, ⟨by simp, fun k hk => ?_⟩, fun j v hj => ?_⟩
  · obtain ⟨d, hd, hat⟩ := h k hk
    have hlen := hd.length
    have : ((((List.range (l.length * u.size)).map fun j => (R.C b (o + j)).getD undef).drop (k * u.size)).take u.size) = d := by
      apply List.ext_getElem?
      intro j
      have hle : (k + 1) * u.size ≤ l.length * u.size := Nat.mul_le_mul_right _ hk
      rw [Nat.add_mul, Nat.one_mul] at hle
      by_cases hj : j < u.size
      · rw [List.getElem?_take_of_lt hj, List.getElem?_drop, List.getElem?_map, List.getElem?_range (by omega)]
        have hv : d[j]? = some d[j] := List.getElem?_eq_getElem (by omega)
        have := hat j _ hv
        rw [hv, Option.map_some, ← Nat.add_assoc, this]
        rfl
      · rw [List.getElem?_take_eq_none (by omega), List.getElem?_eq_none (by omega)]
    rw [this]
    exact hd
  · simp only [List.getElem?_map, Option.map_eq_some_iff] at hj
    obtain ⟨m, hm, rfl⟩ := hj
    have hjm : j < l.length * u.size ∧ m = j := by
      rw [List.getElem?_eq_some_iff] at hm
      obtain ⟨h1, h2⟩ := hm
      simp at h1 h2
      exact ⟨h1, h2.symm⟩
    obtain ⟨hlt, rfl⟩ := hjm
    -- which element
    have hsz : 0 < u.size := by
      rcases Nat.eq_zero_or_pos u.size with h0 | h0
      · rw [h0] at hlt; simp at hlt
      · exact h0
    have hk : m / u.size < l.length := (Nat.div_lt_iff_lt_mul hsz).2 hlt
    obtain ⟨d, hd, hat⟩ := h (m / u.size) hk
    have hr : m % u.size < d.length := by rw [hd.length]; exact Nat.mod_lt _ hsz
    have := hat (m % u.size) _ (List.getElem?_eq_getElem hr)
    rw [show o + m / u.size * u.size + m % u.size = o + m from by
      have := Nat.div_add_mod m u.size
      rw [Nat.mul_comm] at this
      omega] at this
    rw [this]
    rfl

theorem Flat.rows {R : RC} {u : Ty} {l : List (Val u)} {F : List Value} (h : Flat R u l F) {b o : Nat} (hat : At R F b o) : ∀ i, i < l.length → ∃ d, RepT R u (l.getD i (dfl u)) d ∧ At R d b (o + i * u.size) := by
  intro i hi
  refine ⟨_, h.2 i hi, fun j v hj => ?_⟩
  have hjlt : j < u.size := by
    rcases Nat.lt_or_ge j u.size with hl | hl
    · exact hl
    · rw [List.getElem?_take_eq_none hl] at hj; cases hj
  rw [List.getElem?_take_of_lt hjlt, List.getElem?_drop] at hj
  have := hat _ _ hj
  rw [Nat.add_assoc]
  exact this

/-- plain data lies in cells of one -/
theorem Flat.cell {R : RC} {u : Ty} {l : List (Val u)} {F : List Value} (h : Flat R u l F) (v : Value) (hv : v ∈ F) : v.oneCell' = true := by
  obtain ⟨j, hj, rfl⟩ := List.mem_iff_getElem.1 hv
  have hlt : j < l.length * u.size := by rw [← h.1]; exact hj
  have hsz : 0 < u.size := by
    rcases Nat.eq_zero_or_pos u.size with h0 | h0
    · rw [h0] at hlt; simp at hlt
    · exact h0
  have hk : j / u.size < l.length := (Nat.div_lt_iff_lt_mul hsz).2 hlt
  refine RepT.cell u (h.2 _ hk) _ ?_
  rw [List.mem_iff_getElem?]
  refine ⟨j % u.size, ?_⟩
  rw [List.getElem?_take_of_lt (Nat.mod_lt _ hsz), List.getElem?_drop]
  have : j / u.size * u.size + j % u.size = j := by
    have := Nat.div_add_mod j u.size
    rw [Nat.mul_comm] at this
    exact this
  rw [this, List.getElem?_eq_getElem hj]

/-- where a slice value's elements are read from -/
def Reads (w : World) (sz n : Nat) (v : Value) (F : List Value) : Prop := ∀ (P : Program) (w' : World), w'.heap = w.heap → ∀ k, k ≤ n → (Builtin.firstCells sz k v).run P w' = .ok (F.take (k * sz)).toArray w'

theorem reads_at {w : World} {u : Ty} {n : Nat} {ad : Option Addr} {cap : Nat} {F : List Value} (hF : F.length = n * u.size) (hr : n ≠ 0 → ∃ b o, ad = some ⟨b, o, none⟩ ∧ ∀ j v, F[j]? = some v → w.cell? ⟨b, o + j, none⟩ = some v) :
    Reads w u.size n (.slice ad n cap) F := by
  intro P w' hw k hk
  by_cases h0 : n = 0
  · subst h0
    have : k = 0 := by omega
    subst this
    cases ad <;> simp [Builtin.firstCells, loadCells, loadCellsFrom]
  · obtain ⟨b, o, rfl, hrow⟩ := hr h0
    have hl := run_loadCells_list (P := P) w' ⟨b, o, none⟩ (F.take (k * u.size)) (fun j v hj => by
      rw [addr_add, cell?_heap _ _ (show w'.heap[b]? = w.heap[b]? by rw [hw])]
      refine hrow j v ?_
      rcases Nat.lt_or_ge j (k * u.size) with hlt | hge
      · rwa [List.getElem?_take_of_lt hlt] at hj
      · rw [List.getElem?_take_eq_none hge] at hj; cases hj)
    have hle : k * u.size ≤ n * u.size := Nat.mul_le_mul_right _ hk
    rw [List.length_take, hF, Nat.min_eq_left hle] at hl
    simp [Builtin.firstCells, hl]

def SeqOK (R : RC) (w : World) (v : Value) : Option ((t : Ty) × List (Val t)) → Prop
  | none => v = .slice none 0 0
  | some r => ∃ ad cap F, v = .slice ad r.2.length cap ∧ Flat R r.1 r.2 F ∧ Reads w r.1.size r.2.length v F

/-- a slice value's elements, read: where its cells lie -/
theorem sliceSeq_sound (h : Sim c I L s a w) {x : AV} {v : Value} (hx : Rep (c.rc I L w) L x v) {r : Option ((t : Ty) × List (Val t))} {rs : List Nat} (e : (sliceSeq x).run call s.rd = some (r, rs)) :
    SeqOK (c.rc I L w) w v r := by
  have fin : ∀ {u : Ty} {l : List (Val u)} {ad : Option Addr} {cap : Nat}, v = .slice ad l.length cap → (l.length ≠ 0 → ∃ b o, ad = some ⟨b, o, none⟩ ∧ ∀ i, i < l.length → ∃ d, RepT (c.rc I L w) u (l.getD i (dfl u)) d ∧ At (c.rc I L w) d b (o + i * u.size)) →
      SeqOK (c.rc I L w) w v (some ⟨u, l⟩) := by
    intro u l ad cap hv hr
    by_cases h0 : l.length = 0
    · have : l = [] := List.length_eq_zero_iff.1 h0
      subst this
      refine ⟨ad, cap, [], hv, Flat.nil _ u, ?_⟩
      subst hv
      exact reads_at (by simp) (fun hn => absurd rfl hn)
    · obtain ⟨b, o, rfl, hrow⟩ := hr h0
      obtain ⟨F, hF, hat⟩ := flat_of_rows hrow
      refine ⟨_, cap, F, hv, hF, ?_⟩
      subst hv
      exact reads_at hF.1 fun _ => ⟨b, o, rfl, hat⟩
  unfold sliceSeq at e
  split at e
  · rename_i t l
    obtain ⟨rfl, rfl⟩ := HM.run_ret e
    simp only [Rep] at hx
    obtain ⟨ad, cap, hs, hcap, hrow, _⟩ := hx
    simp only [List.cons.injEq, and_true] at hs
    exact fin hs fun hne => by
      obtain ⟨b, o, ha, hb, hi⟩ := hrow hne
      exact ⟨b, o, ha, hi⟩
  · rename_i t l
    obtain ⟨rfl, rfl⟩ := HM.run_ret e
    simp only [Rep] at hx
    obtain ⟨⟨ad, cap, hs, hcap, hrow, _⟩, _⟩ := hx
    simp only [List.cons.injEq, and_true] at hs
    exact fin hs fun hne => by
      obtain ⟨b, o, ha, hb, hi⟩ := hrow hne
      exact ⟨b, o, ha, hi⟩
  · obtain ⟨rfl, rfl⟩ := HM.run_ret e
    simp only [Rep] at hx
    exact hx
  · rename_i u0 id i n g
    obtain ⟨b, l', hb, e', rfl⟩ := HM.run_rd e
    clear e
    split at e'
    · rename_i hg
      split at e'
      · rename_i t l hct
        obtain ⟨hle, e2⟩ := HM.run_chk e'
        obtain ⟨rfl, rfl⟩ := HM.run_ret e2
        have hle := of_decide_eq_true hle
        have hlen : ((l.drop i).take n).length = n := by simp; omega
        simp only [Rep] at hx
        obtain ⟨p, hp, hw', hge, ad, cap, hs, hcap, hsome, hcur⟩ := hx
        obtain ⟨⟨hpg, hk⟩, hf⟩ := h.get hp hb
        rw [hct] at hk
        refine fin (l := (l.drop i).take n) (by rw [hlen]; exact hs) fun hne => ?_
        rw [hlen] at hne
        rcases hk with ⟨_, rfl, _⟩ | ⟨hv, hpw, cs, T, hh, hps, hsize, hrow⟩
        · simp at hle; omega
        · rcases hcur (by rw [hpg, hg]) with h0 | ⟨_, had, _⟩
          · omega
          · refine ⟨p.b, _, had, fun j hj => ?_⟩
            rw [hlen] at hj
            rw [getD_cut l i n j _ hj]
            obtain ⟨d, hd, hat⟩ := hrow (i + j) (by omega)
            refine ⟨d, hd, ?_⟩
            rw [← hpw, Nat.add_assoc, ← Nat.add_mul]
            exact hat
      · cases e'
    · cases e'
  · cases e

end

/-- the builtin, where a new row is made -/
theorem run_append_new {P : Program} (w : World) {t ty e : TypeId} {i : TypeInfo} {z : Value} {n cap m : Nat} {s x : Value} {F G : List Value} {sz : Nat} (ht : P.underlying t = some (.slice e)) (hi : P.info? e = some i) (hz : i.zero = some z) (hsz : i.size = sz)
    {ad ad' : Option Addr} {cap' : Nat} (hs : s = .slice ad n cap) (hx : x = .slice ad' m cap') (hF : Reads w sz n s F) (hFl : F.length = n * sz) (hG : Reads w sz m x G) (hGl : G.length = m * sz) (hg : cap < n + m) (hb : (n + m) * (i.bytes + 1) ≤ 1099511627776) :
    ∃ nc w', (Builtin.append_ #[t, t] ty #[s, x]).run P w = .ok (.slice (some ⟨w.heap.size, 0, none⟩) (n + m) nc) w' ∧ n + m ≤ nc ∧ w'.heap = w.heap.push (.cells (F.toArray ++ G.toArray ++ Builtin.zeroCells z.cells (nc - (n + m))) e (0, 0)) ∧ IO w w' := by
  have hnm : (n + m) * (i.bytes + 1) = (n + m) * i.bytes + (n + m) := by rw [Nat.mul_add, Nat.mul_one]
  have h63' : ¬ (9223372036854775807 < ((n : Int) + (m : Int))) := by omega
  have hfit := growslice_fits (need := n + m) (old := cap) (bytes := i.bytes) hg (by omega)
  have h48' : ¬ (281474976710656 < Builtin.nextslicecap (n + m) cap * i.bytes) := by omega
  have hn : ¬ (n + m ≤ cap) := by omega
  have hf := hF P w.drew rfl n (Nat.le_refl _)
  have hg2 := hG P w.drew rfl m (Nat.le_refl _)
  rw [← hFl, List.take_length] at hf
  rw [← hGl, List.take_length] at hg2
  refine ⟨grownCap w (n + m) cap e, w.drew.alloc (.cells (F.toArray ++ G.toArray ++ Builtin.zeroCells z.cells (grownCap w (n + m) cap e - (n + m))) e), ?_, grownCap_ge w (n + m) cap e, rfl, rfl, rfl, rfl⟩
  subst hs hx hsz
  simp [Builtin.append_, run_underlying ht, sizeOf, typeInfo, zeroValue, hi, hz, Builtin.lenOf, hn, h63', h48', Question.forced, hf, hg2, newRow, grownCap]
  congr 2
  apply Array.ext'
  simp [List.append_assoc]

/-- the builtin, where there is room -/
theorem run_append_in {P : Program} (w : World) {t ty e : TypeId} {i : TypeInfo} {n cap m : Nat} {s x : Value} {G : List Value} {sz : Nat} (ht : P.underlying t = some (.slice e)) (hi : P.info? e = some i) (hsz : i.size = sz)
    {ad ad' : Option Addr} {cap' : Nat} (hs : s = .slice ad n cap) (hx : x = .slice ad' m cap') (hG : Reads w sz m x G) (hGl : G.length = m * sz) (hg : n + m ≤ cap) {w' : World}
    (hst : ∀ q, ad = some q → (storeCells (q.add (n * sz)) G).run P w = .ok () w') (hnone : ad = none → w' = w) :
    (Builtin.append_ #[t, t] ty #[s, x]).run P w = .ok (.slice ad (n + m) cap) w' := by
  have hg2 := hG P w rfl m (Nat.le_refl _)
  rw [← hGl, List.take_length] at hg2
  subst hs hx hsz
  cases ad with
  | none => rw [hnone rfl]; simp [Builtin.append_, run_underlying ht, sizeOf, typeInfo, hi, Builtin.lenOf, hg, hg2]
  | some q => simp [Builtin.append_, run_underlying ht, sizeOf, typeInfo, hi, Builtin.lenOf, hg, hg2, hst q rfl]

section
variable {c : Ctx} {I : Nat → Prop} {L : Ref → Option Pl} {s : St} {a : Act} {w : World} {call : CallF}

theorem OpOK.both {o : Oper} {x : AV} {v : Value} {wr : List (Ref × Blk)} {w' : World} (e : (execOp a.eval o).run c.P w = .ok (.value v) w') {I' : Nat → Prop} {L' : Ref → Option Pl}
    (hs : Sim c I' L' ⟨s.env, putAll s.heap wr⟩ a w') (hx : Rep (c.rc I' L' w') L' x v) : OpOK c s a w o { x := x, wr := wr } := by
  intro K Q hK
  unfold Oper.wp
  rw [e, Oper.upon_value]
  exact hK _ _ _ _ (hs.put o.dst hx)

/-- a slice of the call's own, which is as it stands -/
theorem lsl_base (h : Sim c I L s a w) {t : Ty} {id : Ref} {i n g : Nat} {v : Value} (hx : Rep (c.rc I L w) L (.lsl t id i n g) v) {b : Blk} (hb : s.rd id = some b) (hg : g = b.gen) {u : Ty} {l : List (Val u)} (hct : b.ct = .sl u l) (hle : i + n ≤ l.length) :
    ∃ p ad cap F, L id = some p ∧ p.w = t.size ∧ p.gen = g ∧ (b.frozen = false → p.virt = false → ¬ I p.b) ∧ v = .slice ad n cap ∧ n ≤ cap ∧ Flat (c.rc I L w) u ((l.drop i).take n) F ∧ Reads w u.size n v F ∧
      (cap = 0 ∨ (p.virt = false ∧ p.w = u.size ∧ ad = some ⟨p.b, p.o + i * p.w, none⟩ ∧ p.o + (i + cap) * p.w ≤ p.size ∧ ∃ cs T, w.heap[p.b]? = some (.cells cs T (0, 0)) ∧ cs.size = p.size ∧ ∀ j v, F[j]? = some v → cs[p.o + i * p.w + j]? = some v)) := by
  have hlen : ((l.drop i).take n).length = n := by simp; omega
  simp only [Rep] at hx
  obtain ⟨p, hp, hw', hge, ad, cap, hs, hcap, hsome, hcur⟩ := hx
  obtain ⟨⟨hpg, hk⟩, hf⟩ := h.get hp hb
  rw [hct] at hk
  have hcur := hcur (by rw [hpg, hg])
  by_cases h0 : cap = 0
  · have hn : n = 0 := by omega
    subst hn
    refine ⟨p, ad, cap, [], hp, hw', by rw [hpg, hg], hf, hs, hcap, by simpa using Flat.nil _ u, ?_, .inl h0⟩
    rw [hs]
    exact reads_at (by simp) (fun hn => absurd rfl hn)
  · rcases hcur with hc | ⟨hv, had, hroom⟩
    · exact absurd hc h0
    rcases hk with ⟨hv', _⟩ | ⟨_, hpw, cs, T, hh, hps, hsize, hrow⟩
    · rw [hv] at hv'; cases hv'
    · obtain ⟨F, hF, hat⟩ := flat_of_rows (R := c.rc I L w) (u := u) (l := (l.drop i).take n) (b := p.b) (o := p.o + i * p.w) fun j hj => by
        rw [hlen] at hj
        rw [getD_cut l i n j _ hj]
        obtain ⟨d, hd, hat⟩ := hrow (i + j) (by omega)
        refine ⟨d, hd, ?_⟩
        rw [← hpw, Nat.add_assoc, ← Nat.add_mul]
        exact hat
      refine ⟨p, ad, cap, F, hp, hw', by rw [hpg, hg], hf, hs, hcap, hF, ?_, .inr ⟨hv, hpw, had, hroom, cs, T, hh, hps, fun j v hj => ?_⟩⟩
      · rw [hs]
        exact reads_at (by rw [hF.1, hlen]) fun _ => ⟨_, _, had, hat⟩
      · rw [← cell?_cells hh]
        exact hat j v hj

theorem castL_self {u : Ty} (y : List (Val u)) : castL rfl y = y := rfl

theorem append_in {l m : List Value} {cs : Array Value} {o j : Nat} {v : Value} (hl : ∀ j v, l[j]? = some v → cs[o + j]? = some v) (hs : o + l.length + m.length ≤ cs.size) (hj : (l ++ m)[j]? = some v) : (wrAt cs (o + l.length + 0) m)[o + j]? = some v := by
  rcases Nat.lt_or_ge j l.length with hlt | hge
  · rw [List.getElem?_append_left hlt] at hj
    rw [wrAt_out _ _ _ _ (.inl (by omega))]
    exact hl j v hj
  · rw [List.getElem?_append_right hge] at hj
    have hjlt : j - l.length < m.length := by
      rcases Nat.lt_or_ge (j - l.length) m.length with hl | hl
      · exact hl
      · rw [List.getElem?_eq_none hl] at hj; cases hj
    have := wrAt_in m cs (o + l.length + 0) (j - l.length) hjlt (by omega)
    rw [show o + l.length + 0 + (j - l.length) = o + j from by omega] at this
    rw [this]
    exact hj

/-- a slice of the call's own, appended to -/
theorem append_own (h : Sim c I L s a w) {o : Oper} {t ty et : TypeId} {t0 : Ty} {id i n g : Nat} {vx vy : Value} (hvx : Rep (c.rc I L w) L (.lsl t0 (.l id) i n g) vx) {b : Blk} (hbb : s.rd (.l id) = some b) (hg : g = b.gen) (hz : b.frozen = false)
    {u : Ty} (ht0 : t0.size = u.size) {l : List (Val u)} (hct : b.ct = .sl u l) (hl : i + n = l.length) {y' : List (Val u)} {ii : TypeInfo} {z : Value} (hT0u : c.P.underlying t = some (.slice et)) (hTinfo : c.P.info? et = some ii) (hTzero : ii.zero = some z) (hsize : ii.size = u.size) (hzs' : z.cells.size = u.size)
    (hm : (n + y'.length) * (ii.bytes + 1) ≤ 1099511627776) {ady : Option Addr} {capy : Nat} {G : List Value} (hy : vy = .slice ady y'.length capy) (hG : Flat (c.rc I L w) u y' G) (hGr : Reads w u.size y'.length vy G)
    (exec : ∀ {v : Value} {w' : World}, (Builtin.append_ #[t, t] ty #[vx, vy]).run c.P w = .ok v w' → (execOp a.eval o).run c.P w = .ok (.value v) w') :
    OpOK c s a w o { x := .lsl u (.l id) 0 (n + y'.length) (g + 1), wr := [(.l id, { b with ct := .sl u ((l.drop i).take n ++ y'), gen := g + 1 })] } := by
  obtain ⟨p, ad, cap, F, hp, hpt, hpg, hf, hv, hcap, hF, hFr, hplace⟩ := lsl_base h hvx hbb hg hct (Nat.le_of_eq hl)
  have hb0 := rdv_l.1 (show rdv s.heap (.l id) = some b from hbb)
  have hid : id < s.heap.length := (List.getElem?_eq_some_iff.1 hb0).1
  have hnt : ∀ x, s.heap[id]? = some (some x) → x.isTab = false := fun x hx => by rw [hb0] at hx; injection hx with hx; injection hx with hx; subst hx; simp [Blk.isTab, hct]
  have hFl : F.length = n * u.size := by
    rw [hF.1]
    congr 1
    simp; omega
  have hpu : p.w = u.size := by rw [hpt, ht0]
  have hFG := hF.append hG
  have hll : ((l.drop i).take n ++ y').length = n + y'.length := by simp; omega
  by_cases hgrow : cap < n + y'.length
  · obtain ⟨nc, w', hr, hnc, hheap, hio⟩ := run_append_new (P := c.P) w (ty := ty) hT0u hTinfo hTzero hsize hv hy hFr hFl hGr hG.1 hgrow hm
    obtain ⟨cs, hcs⟩ : ∃ cs, cs = F.toArray ++ G.toArray ++ Builtin.zeroCells z.cells (nc - (n + y'.length)) := ⟨_, rfl⟩
    rw [← hcs] at hheap
    have hcsz : cs.size = nc * u.size := by
      rw [hcs]
      simp only [Array.size_append, List.size_toArray, size_zeroCells, hFl, hG.1, hzs', ← Nat.add_mul]
      congr 1
      omega
    refine OpOK.both (exec hr) (I' := I) (L' := addL L (.l id) ⟨w.heap.size, 0, u.size, g + 1, cs.size, false⟩) ?_ ?_
    · simp only [putAll, putH]
      refine h.upd hid hnt rfl (fun q hq => ?_) (fun _ => ⟨by rw [hheap]; simp, .inl (Nat.le_refl _)⟩) (by rw [hheap]; simp) hio (fun b hb _ => heap_push_old hheap b hb) ?_ ?_
      · rw [hp] at hq
        injection hq with hq
        subst hq
        exact ⟨hpu.symm, .inr (by rw [hpg]; exact Nat.lt_succ_self _)⟩
      · intro hr' hl'
        refine ⟨rfl, .inr ⟨rfl, rfl, cs, et, heap_push_new hheap, rfl, ?_, ?_⟩⟩
        · rw [hll, hcsz, Nat.zero_add]
          exact Nat.mul_le_mul_right _ hnc
        · refine (hFG.mono hr').rows fun j v hj => ?_
          show World.cell? _ _ = _
          rw [cell?_cells (heap_push_new hheap), hcs, Nat.zero_add, ← Array.getElem?_toList]
          simp only [Array.toList_append]
          exact List.getElem?_append_left (List.getElem?_eq_some_iff.1 hj).1 ▸ hj
      · intro _ _ hI
        have := h.imm _ hI
        simp only at this
        omega
    · simp only [Rep]
      refine ⟨⟨w.heap.size, 0, u.size, g + 1, cs.size, false⟩, by simp [addL], rfl, Nat.le_refl _, some ⟨w.heap.size, 0, none⟩, nc, rfl, hnc, fun _ => rfl, fun _ => .inr ⟨rfl, by simp, ?_⟩⟩
      simp only [Nat.zero_add]
      rw [hcsz]
      exact Nat.le_refl _
  · by_cases h0 : cap = 0
    · have hy0 : y'.length = 0 := by omega
      have hn0 : n = 0 := by omega
      have hG0 : G = [] := List.length_eq_zero_iff.1 (by rw [hG.1, hy0, Nat.zero_mul])
      have hr := run_append_in (P := c.P) w (ty := ty) (w' := w) hT0u hTinfo hsize hv hy hGr hG.1 (by omega) (fun q _ => by rw [hG0]; simp [storeCells]) (fun _ => rfl)
      refine OpOK.both (exec hr) (I' := I) (L' := addL L (.l id) ⟨p.b, p.o, u.size, g + 1, p.size, true⟩) ?_ ?_
      · simp only [putAll, putH]
        refine h.upd hid hnt rfl (fun q hq => ?_) (fun hv => by cases hv) (Nat.le_refl _) (IO.refl w) (fun _ _ _ => rfl) ?_ (fun _ hv => by cases hv)
        · rw [hp] at hq
          injection hq with hq
          subst hq
          exact ⟨hpu.symm, .inr (by rw [hpg]; exact Nat.lt_succ_self _)⟩
        · intro hr' hl'
          refine ⟨rfl, .inl ⟨rfl, List.length_eq_zero_iff.1 ?_, rfl⟩⟩
          rw [hll]; omega
      · simp only [Rep]
        refine ⟨⟨p.b, p.o, u.size, g + 1, p.size, true⟩, by simp [addL], rfl, Nat.le_refl _, ad, cap, rfl, by omega, fun hne => by omega, fun _ => .inl h0⟩
    · rcases hplace with hc | ⟨hpv, _, had, hroom, cells, T, hh, hps, hat⟩
      · exact absurd hc h0
      have hnI := hf hz hpv
      have hmul : (n + y'.length) * p.w ≤ cap * p.w := Nat.mul_le_mul_right _ (by omega)
      rw [Nat.add_mul] at hmul hroom
      have hGl : G.length = y'.length * p.w := by rw [hG.1, hpu]
      have hFl' : F.length = n * p.w := by rw [hFl, hpu]
      obtain ⟨w', erun, hs, hnew, hoth, hio⟩ := run_storeCells (P := c.P) (o := p.o + i * p.w + F.length) G 0 w cells hh (by rw [hps]; omega) (fun v hv => hG.cell v hv)
      have hr := run_append_in (P := c.P) w (ty := ty) (w' := w') hT0u hTinfo hsize hv hy hGr hG.1 (by omega) (fun q hq => by
        rw [had] at hq
        injection hq with hq
        rw [← hq, addr_add, ← hFl]
        exact erun) (fun hnn => by rw [had] at hnn; cases hnn)
      refine OpOK.both (exec hr) (I' := I) (L' := addL L (.l id) { p with o := p.o + i * p.w, gen := g + 1 }) ?_ ?_
      · simp only [putAll, putH]
        refine h.upd hid hnt rfl (fun q hq => ?_) (fun _ => ⟨by rw [hs]; exact (h.own _ p hp hpv).2, .inr ⟨p, hp, hpv, rfl⟩⟩) (by rw [hs]; exact Nat.le_refl _) hio ?_ ?_ (fun _ _ => hnI)
        · rw [hp] at hq
          injection hq with hq
          subst hq
          exact ⟨rfl, .inr (by rw [hpg]; exact Nat.lt_succ_self _)⟩
        · intro k _ hk
          by_cases e : k = p.b
          · exact absurd (hk p hp hpv e) (by rw [e]; exact hnI)
          · exact hoth k e
        · intro hr' hl'
          refine ⟨rfl, .inr ⟨hpv, hpu, _, T, hnew, by rw [wrAt_size]; exact hps, ?_, ?_⟩⟩
          · rw [hll]
            simp only
            rw [Nat.add_mul]
            omega
          · simp only [hpu]
            refine (hFG.mono hr').rows fun j v hj => ?_
            show World.cell? _ _ = _
            rw [cell?_cells hnew, ← hpu]
            exact append_in hat (by rw [hps]; omega) hj
      · simp only [Rep]
        refine ⟨{ p with o := p.o + i * p.w, gen := g + 1 }, by simp [addL], hpu, Nat.le_refl _, ad, cap, rfl, by omega, fun _ => by rw [had]; rfl, fun _ => .inr ⟨hpv, by simp [had], ?_⟩⟩
        simp only [Nat.zero_add]
        omega

theorem op_append (h : Sim c I L s a w) (hE : EnvOK c.P c.E) {cl : Call} {o : Oper} (ho : o.op = .call cl) (hb : cl.callee = .builtin .append) {newId : Nat} (hn : s.heap[newId]? = some none) {δ : Dl} {rs : List Nat}
    (e : (aop c.E (aeval s.env) newId o.op).run call s.rd = some (δ, rs)) : OpOK c s a w o δ := by
  have ho' := ho
  rw [ho] at e
  simp only [aop, hb] at e
  have hargs := h.evalL cl.args.toList
  generalize hts : cl.argTypes.toList = ts at e
  generalize has : cl.args.toList.map (aeval s.env) = as at e hargs
  unfold builtinA at e
  split at e <;> try (rename_i hbb; cases hbb; done)
  · rename_i t t' x y _
    split at e
    · rename_i htt
      subst htt
      simp only [RepL] at hargs
      obtain ⟨vx, tl, hvs, hvx, vy, tl2, rfl, hvy, rfl⟩ := hargs
      have hts' : cl.argTypes = #[t, t] := by rw [← Array.toArray_toList (xs := cl.argTypes), hts]
      have has' : cl.args.map a.eval = #[vx, vy] := by
        apply Array.ext'
        rw [Array.toList_map, hvs]
      have exec : ∀ {v : Value} {w' : World}, (Builtin.append_ #[t, t] o.type #[vx, vy]).run c.P w = .ok v w' → (execOp a.eval o).run c.P w = .ok (.value v) w' := by
        intro v w' hr
        have hrun : (builtin .append cl.argTypes o.type (cl.args.map fun | .const _ => true | _ => false) (cl.args.map a.eval)).run c.P w = .ok (.value v) w' := by
          rw [hts', has']
          simp only [builtin, Sem.run_bind, hr]
          rfl
        simp only [execOp, ho', resolve, hb, invoke]
        exact hrun
      unfold appendA at e
      split at e
      · cases e
      · rename_i ti hel
        unfold elemT at hel
        split at hel
        · rename_i si hty
          obtain ⟨d, i0, z0, hT0⟩ := hE.ty _ si hty
          have hd := hT0.desc
          split at hel
          · rename_i et htd
            rw [htd] at hd
            obtain rfl := descOf_slice hd
            obtain ⟨d, ii, z, hT⟩ := hE.ty _ ti hel
            have hzs : z.cells.size = ti.size := by
              have := (hT.zeroL (c.rc I L w) L).length
              rw [hT.len] at this
              simpa using this
            obtain ⟨r, r1, r2, e1, e2, rfl⟩ := HM.run_bind e
            have hseq := sliceSeq_sound h hvy e1
            cases r with
            | none =>
              simp only [SeqOK] at hseq
              subst hseq
              simp only at e2
              split at e2
              · rename_i u id i n g
                obtain ⟨rfl, rfl⟩ := HM.run_ret e2
                have hvx' := hvx
                simp only [Rep] at hvx'
                obtain ⟨p, hp, hw', hge, ad, cap, rfl, hcap, _⟩ := hvx'
                refine OpOK.value h (exec (run_append_in w (G := []) hT0.u hT.info hT.size rfl rfl (fun P w' _ k hk => ?_) (by simp) (by omega) (fun q _ => ?_) (fun _ => rfl))) hvx
                · have : k = 0 := by omega
                  subst this
                  simp [Builtin.firstCells]
                · simp [storeCells]
              · obtain ⟨rfl, rfl⟩ := HM.run_ret e2
                simp only [Rep] at hvx
                subst hvx
                refine OpOK.value h (v := .slice none 0 0) (exec (run_append_in w (G := []) hT0.u hT.info hT.size rfl rfl (fun P w' _ k hk => ?_) (by simp) (by omega) (fun q _ => ?_) (fun _ => rfl))) (by simp [Rep])
                · have : k = 0 := by omega
                  subst this
                  simp [Builtin.firstCells]
                · simp [storeCells]
              · cases e2
            | some r =>
              obtain ⟨u, y'⟩ := r
              obtain ⟨ady, capy, G, hy, hG, hGr⟩ := hseq
              simp only at hy hG hGr
              simp only at e2
              split at e2
              · cases e2
              · rename_i hus
                have hus : u.size = ti.size := by simpa using hus
                have hzs' : z.cells.size = u.size := by rw [hzs, hus]
                have hby : ii.bytes = ti.bytes := hT.bytes
                have hsize : ii.size = u.size := by rw [hT.size, hus]
                split at e2
                · rename_i t0 id i n g
                  obtain ⟨b, l', hbb, e3, rfl⟩ := HM.run_rd e2
                  split at e3
                  · rename_i hcond
                    obtain ⟨hg, hz, ht0⟩ := hcond
                    split at e3
                    · rename_i u' l hct
                      split at e3
                      · rename_i huu
                        subst huu
                        obtain ⟨hl, e4⟩ := HM.run_chk e3
                        obtain ⟨hm, e5⟩ := HM.run_chk e4
                        obtain ⟨rfl, rfl⟩ := HM.run_ret e5
                        have hl := of_decide_eq_true hl
                        have hm := of_decide_eq_true hm
                        have hmost : most = 1099511627776 := rfl
                        rw [hmost] at hm
                        rw [castL_self]
                        exact append_own h hvx hbb hg hz ht0 hct hl hT0.u hT.info hT.zero hsize hzs' (by rw [hby]; exact hm) hy hG hGr exec
                      · cases e3
                    · cases e3
                  · cases e3
                · rename_i t0 k io q i n g
                  obtain ⟨b, l', hbb, e3, rfl⟩ := HM.run_rd e2
                  obtain ⟨tb, l'', htb, e4, rfl⟩ := HM.run_rd e3
                  split at e4
                  · rename_i hcond
                    obtain ⟨hg, ht0⟩ := hcond
                    split at e4
                    · rename_i u' l cs rows st gs hct htct
                      split at e4
                      · rename_i huu
                        subst huu
                        obtain ⟨hl, e5⟩ := HM.run_chk e4
                        obtain ⟨hm, e6⟩ := HM.run_chk e5
                        obtain ⟨rfl, rfl⟩ := HM.run_ret e6
                        have hl := of_decide_eq_true hl
                        have hm := of_decide_eq_true hm
                        have hmost : most = 1099511627776 := rfl
                        rw [hmost] at hm
                        rw [castL_self]
                        have hvx' := hvx
                        simp only [Rep] at hvx'
                        obtain ⟨p, hp, hpw, hge, ad, cap, hs, hcap, hsome, hcur⟩ := hvx'
                        obtain ⟨⟨hpg, _⟩, _⟩ := h.get hp hbb
                        have hd := h.detach hp hbb hct htb htct hn
                        have hvd : Rep (c.rc I (addL (addL L (.o k io q) { p with gen := p.gen + 1, virt := true }) (.l newId) { p with gen := 0 }) w) (addL (addL L (.o k io q) { p with gen := p.gen + 1, virt := true }) (.l newId) { p with gen := 0 }) (.lsl t0 (.l newId) i n 0) vx := by
                          simp only [Rep]
                          exact ⟨{ p with gen := 0 }, by simp [addL], hpw, Nat.le_refl _, ad, cap, hs, hcap, hsome, fun _ => hcur (by rw [hpg, hg])⟩
                        have hql : q ≠ 0 := by
                          intro e
                          subst e
                          obtain ⟨_, _, _, _, _, _, _, hv⟩ := rdH_o hbb
                          simp only [viewO, Option.some.injEq] at hv
                          subst hv
                          exact (objCt_sl hct).elim
                        have hL' : LLe L (addL (addL L (.o k io q) { p with gen := p.gen + 1, virt := true }) (.l newId) { p with gen := 0 }) := by
                          refine LLe.trans (addL_le (id := .o k io q) (p := { p with gen := p.gen + 1, virt := true }) (fun x hx => ?_) (fun hb => ?_)) (addL_le (fun x hx => ?_) (fun hb => hb))
                          · rw [hp] at hx
                            injection hx with hx
                            subst hx
                            exact ⟨rfl, Nat.lt_succ_self _⟩
                          · cases q with
                            | zero => exact hql rfl
                            | succ q => exact hb
                          · have := free_L h hn
                            simp only [addL] at hx
                            rw [if_neg (by simp), this] at hx
                            cases hx
                        have hkey := append_own (b := { ct := .sl u l, gen := 0, frozen := false }) hd hvd (rdv_l.2 (List.getElem?_set_self (by simpa using lt_of_free hn))) rfl rfl ht0 rfl hl hT0.u hT.info hT.zero hsize hzs' (by rw [hby]; exact hm) hy (hG.mono (rle_of_heap (fun _ hb => hb) (fun _ _ => rfl) hL')) hGr exec
                        intro K Q hK
                        refine hkey K Q fun I' L' a' w' hs' => hK I' L' a' w' ?_
                        have htb0 := rdv_l.1 (show rdv s.heap (.l k) = some tb from htb)
                        simp only [St.app, putAll, putH] at hs' ⊢
                        rw [List.set_set] at hs'
                        exact hs'
                      · cases e4
                    · cases e4
                  · cases e4
                · obtain ⟨hm, e5⟩ := HM.run_chk e2
                  obtain ⟨rfl, rfl⟩ := HM.run_ret e5
                  have hm := of_decide_eq_true hm
                  have hmost : most = 1099511627776 := rfl
                  rw [hmost] at hm
                  simp only [Rep] at hvx
                  have hFr : Reads w u.size 0 vx [] := by rw [hvx]; exact reads_at (by simp) (fun hn => absurd rfl hn)
                  by_cases hy0 : y'.length = 0
                  · have hG0 : G = [] := List.length_eq_zero_iff.1 (by rw [hG.1, hy0, Nat.zero_mul])
                    have hr := run_append_in (P := c.P) w (ty := o.type) (w' := w) hT0.u hT.info hsize hvx hy hGr hG.1 (by omega) (fun q hq => by cases hq) (fun _ => rfl)
                    have hL := free_L h hn
                    refine OpOK.both (exec hr) (I' := I) (L' := addL L (.l newId) ⟨0, 0, u.size, 0, 0, true⟩) ?_ ?_
                    · simp only [putAll, putH]
                      refine h.upd ?_ (notab_free hn) rfl (fun q hq => by rw [hL] at hq; cases hq) (fun hv => by cases hv) (Nat.le_refl _) (IO.refl w) (fun _ _ _ => rfl) ?_ (fun _ hv => by cases hv)
                      · rcases Nat.lt_or_ge newId s.heap.length with hlt | hge
                        · exact hlt
                        · rw [List.getElem?_eq_none hge] at hn; cases hn
                      · intro _ _
                        exact ⟨rfl, .inl ⟨rfl, List.length_eq_zero_iff.1 hy0, rfl⟩⟩
                    · simp only [Rep]
                      exact ⟨⟨0, 0, u.size, 0, 0, true⟩, by simp [addL], rfl, Nat.le_refl _, none, 0, by rw [hy0], by omega, fun hne => by omega, fun _ => .inl rfl⟩
                  · obtain ⟨nc, w', hr, hnc, hheap, hio⟩ := run_append_new (P := c.P) w (ty := o.type) hT0.u hT.info hT.zero hsize hvx hy hFr (by simp) hGr hG.1 (by omega) (by rw [hby, Nat.zero_add]; exact hm)
                    obtain ⟨cs, hcs⟩ : ∃ cs, cs = ([] : List Value).toArray ++ G.toArray ++ Builtin.zeroCells z.cells (nc - (0 + y'.length)) := ⟨_, rfl⟩
                    rw [← hcs] at hheap
                    rw [Nat.zero_add] at hr hnc hcs
                    have hcsz : cs.size = nc * u.size := by
                      rw [hcs]
                      simp only [Array.size_append, List.size_toArray, size_zeroCells, hG.1, hzs', List.length_nil, Nat.zero_add, ← Nat.add_mul]
                      congr 1
                      omega
                    refine OpOK.new h hn rfl (exec hr) hheap hio (p := ⟨w.heap.size, 0, u.size, 0, cs.size, false⟩) ⟨rfl, rfl⟩ ?_ ?_
                    · intro hr' hl'
                      refine ⟨rfl, .inr ⟨rfl, rfl, cs, et, heap_push_new hheap, rfl, ?_, ?_⟩⟩
                      · rw [hcsz, Nat.zero_add]
                        exact Nat.mul_le_mul_right _ hnc
                      · refine (hG.mono hr').rows fun j v hj => ?_
                        show World.cell? _ _ = _
                        rw [cell?_cells (heap_push_new hheap), hcs, Nat.zero_add, ← Array.getElem?_toList]
                        simp only [Array.toList_append, List.nil_append]
                        exact List.getElem?_append_left (List.getElem?_eq_some_iff.1 hj).1 ▸ hj
                    · simp only [Rep]
                      refine ⟨⟨w.heap.size, 0, u.size, 0, cs.size, false⟩, by simp [addL], rfl, Nat.le_refl _, some ⟨w.heap.size, 0, none⟩, nc, rfl, hnc, fun _ => rfl, fun _ => .inr ⟨rfl, by simp, ?_⟩⟩
                      simp only [Nat.zero_add]
                      rw [hcsz]
                      exact Nat.le_refl _
                · cases e2
          · cases hel
        · cases hel
    · cases e
  · cases e

end
end Go.Eng

/-
  The abstract machine, part 16: elements copied.
-/
namespace Go.Eng

theorem Flat.take {R : RC} {u : Ty} {l : List (Val u)} {F : List Value} (h : Flat R u l F) {k : Nat} (hk : k ≤ l.length) : Flat R u (l.take k) (F.take (k * u.size)) := by
  have hle : k * u.size ≤ l.length * u.size := Nat.mul_le_mul_right _ hk
  refine ⟨by rw [List.length_take, List.length_take, h.1, Nat.min_eq_left hle, Nat.min_eq_left hk], fun j hj => ?_⟩
  rw [List.length_take, Nat.min_eq_left hk] at hj
  have h1 : (l.take k).getD j (dfl u) = l.getD j (dfl u) := by
    rw [List.getD_eq_getElem?_getD, List.getD_eq_getElem?_getD, List.getElem?_take_of_lt hj]
  have hj1 : (j + 1) * u.size ≤ k * u.size := Nat.mul_le_mul_right _ hj
  rw [Nat.add_mul, Nat.one_mul] at hj1
  have h2 : ((F.take (k * u.size)).drop (j * u.size)).take u.size = (F.drop (j * u.size)).take u.size := by
    rw [List.drop_take, List.take_take, Nat.min_eq_left (by omega)]
  rw [h1, h2]
  exact h.2 j (by omega)

section
variable {c : Ctx} {I : Nat → Prop} {L : Ref → Option Pl} {s : St} {a : Act} {w : World} {call : CallF}

theorem run_copy {P : Program} (w : World) {t d : TypeId} {ts : Array TypeId} {e : TypeId} {i : TypeInfo} {n cap m : Nat} {s x : Value} {G : List Value} {sz : Nat} (hts : ts[0]? = some t) (ht : P.underlying t = some (.slice e)) (hi : P.info? e = some i) (hsz : i.size = sz)
    {ad ad' : Option Addr} {cap' : Nat} (hs : s = .slice ad n cap) (hx : x = .slice ad' m cap') (hG : Reads w sz m x G) {w' : World}
    (hst : ∀ q, ad = some q → (storeCells q (G.take (min m n * sz))).run P w = .ok () w') (hnone : ad = none → w' = w) :
    (Builtin.copy_ ts d #[s, x]).run P w = .ok (.int .i64 ((min m n : Nat) : Int)) w' := by
  have hg2 := hG P w rfl (min m n) (Nat.min_le_left _ _)
  subst hs hx hsz
  cases ad with
  | none => rw [hnone rfl]; simp [Builtin.copy_, hts, run_underlying ht, sizeOf, typeInfo, hi, Builtin.lenOf, hg2]; rfl
  | some q => simp [Builtin.copy_, hts, run_underlying ht, sizeOf, typeInfo, hi, Builtin.lenOf, hg2, hst q rfl]; rfl

/-- Elements of a slice of the call's own are written, in place. -/
theorem Sim.splice (h : Sim c I L s a w) {r : Ref} {p : Pl} {b : Blk} {u : Ty} {l y : List (Val u)} (hp : L r = some p) (hbb : s.rd r = some b) (hz : b.frozen = false) (hct : b.ct = .sl u l) (hpv : p.virt = false) {i k : Nat} (hk : y.length = k) (hik : i + k ≤ l.length) {G : List Value}
    (hG : Flat (c.rc I L w) u y G) : ∃ w', (storeCells ⟨p.b, p.o + i * p.w, none⟩ G 0).run c.P w = .ok () w' ∧ Sim c I L ⟨s.env, putH s.heap r { b with ct := .sl u (l.take i ++ y ++ l.drop (i + k)) }⟩ a w' := by
  obtain ⟨⟨hpg, hkk⟩, hf⟩ := h.get hp hbb
  rw [hct] at hkk
  rcases hkk with ⟨hv', _⟩ | ⟨_, hpu, cells, T, hh, hps, hsz2, hrow⟩
  · rw [hpv] at hv'; cases hv'
  have hnI := hf hz hpv
  have hmul : (i + k) * p.w ≤ l.length * p.w := Nat.mul_le_mul_right _ hik
  rw [Nat.add_mul] at hmul
  have hGl : G.length = k * p.w := by rw [hG.1, hk, hpu]
  obtain ⟨w', erun, hs, hnew, hoth, hio⟩ := run_storeCells (P := c.P) (o := p.o + i * p.w) G 0 w cells hh (by rw [hps]; omega) (fun v hv => hG.cell v hv)
  refine ⟨w', erun, ?_⟩
  have hll : (l.take i ++ y ++ l.drop (i + k)).length = l.length := by simp; omega
  refine h.updIn hp hbb hct hll hs hio (fun k hk => hoth k (hk hpv)) (fun _ => hnI) hz fun hr' => ?_
  obtain ⟨F1, hF1, hat1⟩ := flat_of_rows (R := c.rc I L w) (u := u) (l := l.take i) (b := p.b) (o := p.o) fun j hj => by
    simp only [List.length_take] at hj
    obtain ⟨d, hd, hat⟩ := hrow j (by omega)
    refine ⟨d, ?_, by rw [← hpu]; exact hat⟩
    rw [List.getD_eq_getElem?_getD, List.getElem?_take_of_lt (by omega), ← List.getD_eq_getElem?_getD]
    exact hd
  obtain ⟨F3, hF3, hat3⟩ := flat_of_rows (R := c.rc I L w) (u := u) (l := l.drop (i + k)) (b := p.b) (o := p.o + (i + k) * p.w) fun j hj => by
    simp only [List.length_drop] at hj
    obtain ⟨d, hd, hat⟩ := hrow (i + k + j) (by omega)
    refine ⟨d, ?_, ?_⟩
    · rw [List.getD_eq_getElem?_getD, List.getElem?_drop, ← List.getD_eq_getElem?_getD]
      exact hd
    · rw [← hpu, Nat.add_assoc, ← Nat.add_mul]
      exact hat
  have hFl1 : F1.length = i * p.w := by
    rw [hF1.1, List.length_take, Nat.min_eq_left (by omega), hpu]
  refine ⟨hpg, .inr ⟨hpv, hpu, _, T, hnew, by rw [wrAt_size]; exact hps, by rw [hll]; exact hsz2, ?_⟩⟩
  have hall := ((hF1.append hG).append hF3).mono hr'
  rw [hpu]
  refine hall.rows fun j v hj => ?_
  show World.cell? _ _ = _
  rw [cell?_cells hnew]
  have hold : ∀ m, w.cell? ⟨p.b, m, none⟩ = cells[m]? := fun m => cell?_cells hh
  rcases Nat.lt_or_ge j (i * p.w) with hj1 | hj1
  · rw [List.append_assoc, List.getElem?_append_left (by omega)] at hj
    rw [wrAt_out _ _ _ _ (.inl (by omega)), ← hold]
    exact hat1 j v hj
  · rcases Nat.lt_or_ge j (i * p.w + k * p.w) with hj2 | hj2
    · rw [List.getElem?_append_left (by rw [List.length_append, hFl1, hGl]; exact hj2), List.getElem?_append_right (by omega)] at hj
      have := wrAt_in G cells (p.o + i * p.w + 0) (j - F1.length) (by omega) (by omega)
      rw [show p.o + i * p.w + 0 + (j - F1.length) = p.o + j from by omega] at this
      rw [this]
      exact hj
    · rw [List.getElem?_append_right (by rw [List.length_append, hFl1, hGl]; exact hj2), List.length_append, hFl1, hGl] at hj
      rw [wrAt_out _ _ _ _ (.inr (by omega)), ← hold]
      have := hat3 _ v hj
      rw [show p.o + (i + k) * p.w + (j - (i * p.w + k * p.w)) = p.o + j from by rw [Nat.add_mul]; omega] at this
      exact this

theorem op_copy (h : Sim c I L s a w) (hE : EnvOK c.P c.E) {cl : Call} {o : Oper} (ho : o.op = .call cl) (hb : cl.callee = .builtin .copy) {newId : Nat} {δ : Dl} {rs : List Nat}
    (e : (aop c.E (aeval s.env) newId o.op).run call s.rd = some (δ, rs)) : OpOK c s a w o δ := by
  have ho' := ho
  rw [ho] at e
  simp only [aop, hb] at e
  have hargs := h.evalL cl.args.toList
  generalize hts : cl.argTypes.toList = ts at e
  generalize has : cl.args.toList.map (aeval s.env) = as at e hargs
  unfold builtinA at e
  split at e <;> try (rename_i hbb; cases hbb; done)
  · rename_i t ts' x y _
    simp only [RepL] at hargs
    obtain ⟨vx, tl, hvs, hvx, vy, tl2, rfl, hvy, rfl⟩ := hargs
    have hts' : cl.argTypes[0]? = some t := by rw [← Array.getElem?_toList, hts]; rfl
    have has' : cl.args.map a.eval = #[vx, vy] := by
      apply Array.ext'
      rw [Array.toList_map, hvs]
    have exec : ∀ {v : Value} {w' : World}, (Builtin.copy_ cl.argTypes o.type #[vx, vy]).run c.P w = .ok v w' → (execOp a.eval o).run c.P w = .ok (.value v) w' := by
      intro v w' hr
      have hrun : (builtin .copy cl.argTypes o.type (cl.args.map fun | .const _ => true | _ => false) (cl.args.map a.eval)).run c.P w = .ok (.value v) w' := by
        rw [has']
        simp only [builtin, Sem.run_bind, hr]
        rfl
      simp only [execOp, ho', resolve, hb, invoke]
      exact hrun
    unfold copyA at e
    split at e
    · cases e
    · rename_i ti hel
      unfold elemT at hel
      split at hel
      · rename_i si hty
        obtain ⟨d, i0, z0, hT0⟩ := hE.ty _ si hty
        have hd := hT0.desc
        split at hel
        · rename_i et htd
          rw [htd] at hd
          obtain rfl := descOf_slice hd
          obtain ⟨d, ii, z, hT⟩ := hE.ty _ ti hel
          obtain ⟨r, r1, r2, e1, e2, rfl⟩ := HM.run_bind e
          have hseq := sliceSeq_sound h hvy e1
          cases r with
          | none => cases e2
          | some r =>
            obtain ⟨u, y'⟩ := r
            obtain ⟨ady, capy, G, hy, hG, hGr⟩ := hseq
            simp only at hy hG hGr
            simp only at e2
            split at e2
            · cases e2
            · rename_i hus
              have hus : u.size = ti.size := by simpa using hus
              have hsize : ii.size = u.size := by rw [hT.size, hus]
              split at e2
              · rename_i t0 id i n g
                obtain ⟨b, l', hbb, e3, rfl⟩ := HM.run_rd e2
                split at e3
                · rename_i hcond
                  obtain ⟨hg, hz, ht0⟩ := hcond
                  split at e3
                  · rename_i u' l hct
                    split at e3
                    · rename_i huu
                      subst huu
                      obtain ⟨hl, e4⟩ := HM.run_chk e3
                      obtain ⟨rfl, rfl⟩ := HM.run_ret e4
                      have hl := of_decide_eq_true hl
                      obtain ⟨p, ad, cap, F, hp, hpt, hpg, hf, hv, hcap, hF, hFr, hplace⟩ := lsl_base h hvx hbb hg hct hl
                      rw [castL_self]
                      by_cases h0 : min y'.length n = 0
                      · have hr := run_copy (P := c.P) (d := o.type) w (w' := w) hts' hT0.u hT.info hsize hv hy hGr (fun q _ => by rw [h0]; simp [storeCells]) (fun _ => rfl)
                        rw [h0]
                        rw [h0] at hr
                        refine OpOK.both (exec hr) (I' := I) (L' := L) ?_ (by simp [Rep, goInt])
                        simp only [putAll]
                        refine h.updIn hp hbb hct (by simp) rfl (IO.refl w) (fun _ _ => rfl) (fun hpv => hf hz hpv) hz fun _ => ?_
                        have hk := (h.get hp hbb).1
                        unfold BlkOK at hk ⊢
                        rw [hct] at hk
                        simpa using hk
                      · have hc0 : cap ≠ 0 := by omega
                        rcases hplace with hc | ⟨hpv, hpu, had, hroom, cells, T, hh, hps, hat⟩
                        · exact absurd hc hc0
                        have hnI := hf hz hpv
                        obtain ⟨k, hk⟩ : ∃ k, k = min y'.length n := ⟨_, rfl⟩
                        rw [← hk]
                        rw [← hk] at h0
                        have hky : k ≤ y'.length := by omega
                        have hG1 := hG.take hky
                        obtain ⟨w', erun, hS⟩ := h.splice hp hbb hz hct hpv (i := i) (k := k) (y := y'.take k) (by simp; omega) (by omega) hG1
                        have hr := run_copy (P := c.P) (d := o.type) w (w' := w') hts' hT0.u hT.info hsize hv hy hGr (fun q hq => by
                          rw [had] at hq
                          injection hq with hq
                          rw [← hq, ← hk]
                          exact erun) (fun hnn => by rw [had] at hnn; cases hnn)
                        rw [← hk] at hr
                        exact OpOK.both (exec hr) (I' := I) (L' := L) hS (by simp [Rep, goInt])
                    · cases e3
                  · cases e3
                · cases e3
              · cases e2
        · cases hel
      · cases hel
  · cases e

theorem flat_zeros {P : Program} {N : Names} {t : TypeId} {ti : TyI} {d : TypeDesc} {i : TypeInfo} {z : Value} (hT : TyOK P N t ti d i z) {u : Ty} (hu : ti.ty = some u) {R : RC} (hR : R.T.N = N) (n : Nat) : Flat R u (List.replicate n (dfl u)) (Builtin.zeroCells z.cells n).toList := by
  have hz := hT.zeroT hu hR
  have hzl := hz.length
  have hzs : z.cells.size = u.size := by simpa using hzl
  refine ⟨by simp [size_zeroCells, hzs], fun k hk => ?_⟩
  simp only [List.length_replicate] at hk
  have h1 : (List.replicate n (dfl u)).getD k (dfl u) = dfl u := by simp [List.getD_eq_getElem?_getD, hk]
  rw [h1]
  have h2 : ((Builtin.zeroCells z.cells n).toList.drop (k * u.size)).take u.size = z.cells.toList := by
    apply List.ext_getElem?
    intro j
    rcases Nat.lt_or_ge j u.size with hj | hj
    · rw [List.getElem?_take_of_lt hj, List.getElem?_drop, Array.getElem?_toList, Array.getElem?_toList]
      have := zeros_get z.cells n u.size k j hzs hk hj
      simpa [Builtin.zeroCells, hzs] using this
    · rw [List.getElem?_take_eq_none hj, List.getElem?_eq_none (by rw [hzl]; exact hj)]
  rw [h2]
  exact hz

theorem op_clear (h : Sim c I L s a w) (hE : EnvOK c.P c.E) {cl : Call} {o : Oper} (ho : o.op = .call cl) (hb : cl.callee = .builtin .clear) (hmap : ∀ t, cl.argTypes.toList.head? = some t → isMapT c.E t = false) {newId : Nat} {δ : Dl} {rs : List Nat}
    (e : (aop c.E (aeval s.env) newId o.op).run call s.rd = some (δ, rs)) : OpOK c s a w o δ := by
  have ho' := ho
  rw [ho] at e
  simp only [aop, hb] at e
  have hargs := h.evalL cl.args.toList
  generalize hts : cl.argTypes.toList = ts at e
  generalize has : cl.args.toList.map (aeval s.env) = as at e hargs
  unfold builtinA at e
  split at e <;> try (rename_i hbb; cases hbb; done)
  · rename_i t x _
    simp only [RepL] at hargs
    obtain ⟨vx, tl, hvs, hvx, rfl⟩ := hargs
    have hts' : cl.argTypes[0]? = some t := by rw [← Array.getElem?_toList, hts]; rfl
    have has' : cl.args.map a.eval = #[vx] := by
      apply Array.ext'
      rw [Array.toList_map, hvs]
    have exec : ∀ {v : Value} {w' : World}, (Builtin.clear_ cl.argTypes o.type #[vx]).run c.P w = .ok v w' → (execOp a.eval o).run c.P w = .ok (.value v) w' := by
      intro v w' hr
      have hrun : (builtin .clear cl.argTypes o.type (cl.args.map fun | .const _ => true | _ => false) (cl.args.map a.eval)).run c.P w = .ok (.value v) w' := by
        rw [has']
        simp only [builtin, Sem.run_bind, hr]
        rfl
      simp only [execOp, ho', resolve, hb, invoke]
      exact hrun
    have hmt : isMapT c.E t = false := hmap t (by rw [hts]; rfl)
    rw [hmt] at e
    simp only at e
    unfold clearA at e
    split at e
    · cases e
    · rename_i ti hel
      unfold elemT at hel
      split at hel
      · rename_i si hty
        obtain ⟨d, i0, z0, hT0⟩ := hE.ty _ si hty
        have hd := hT0.desc
        split at hel
        · rename_i et htd
          rw [htd] at hd
          obtain rfl := descOf_slice hd
          obtain ⟨d, ii, z, hT⟩ := hE.ty _ ti hel
          split at e
          · obtain ⟨rfl, rfl⟩ := HM.run_ret e
            simp only [Rep] at hvx
            subst hvx
            refine OpOK.value h (v := .tuple #[]) (exec ?_) (by simp [Rep])
            simp [Builtin.clear_, hts', hT0.run_u]
          · rename_i u t0 id i n g hu
            obtain ⟨b, l', hbb, e3, rfl⟩ := HM.run_rd e
            split at e3
            · rename_i hcond
              obtain ⟨hg, hz, ht0⟩ := hcond
              split at e3
              · rename_i u' l hct
                split at e3
                · rename_i huu
                  subst huu
                  obtain ⟨hl, e4⟩ := HM.run_chk e3
                  obtain ⟨rfl, rfl⟩ := HM.run_ret e4
                  have hl := of_decide_eq_true hl
                  obtain ⟨p, ad, cap, F, hp, hpt, hpg, hf, hv, hcap, hF, hFr, hplace⟩ := lsl_base h hvx hbb hg hct hl
                  by_cases h0 : n = 0
                  · subst h0
                    have hr : (Builtin.clear_ cl.argTypes o.type #[vx]).run c.P w = .ok (.tuple #[]) w := by
                      rw [hv]
                      cases ad <;> simp [Builtin.clear_, hts', hT0.run_u]
                    refine OpOK.both (exec hr) (I' := I) (L' := L) ?_ (by simp [Rep])
                    simp only [putAll]
                    refine h.updIn hp hbb hct (by simp) rfl (IO.refl w) (fun _ _ => rfl) (fun hpv => hf hz hpv) hz fun _ => ?_
                    have hk := (h.get hp hbb).1
                    unfold BlkOK at hk ⊢
                    rw [hct] at hk
                    simpa using hk
                  · rcases hplace with hc | ⟨hpv, hpu, had, hroom, cells, T, hh, hps, hat⟩
                    · omega
                    obtain ⟨w', erun, hS⟩ := h.splice hp hbb hz hct hpv (i := i) (k := n) (y := List.replicate n (dfl u)) (by simp) hl (flat_zeros hT hu rfl n)
                    have hr : (Builtin.clear_ cl.argTypes o.type #[vx]).run c.P w = .ok (.tuple #[]) w' := by
                      rw [hv, had]
                      obtain ⟨m, rfl⟩ := Nat.exists_eq_succ_of_ne_zero h0
                      simp [Builtin.clear_, hts', hT0.run_u, hT.run_zero, erun]
                    exact OpOK.both (exec hr) (I' := I) (L' := L) hS (by simp [Rep])
                · cases e3
              · cases e3
            · cases e3
          · cases e
        · cases hel
      · cases hel
  · cases e

end
end Go.Eng

/-
  The abstract machine, part 16a: what is laid into an object's variable.
-/
namespace Go.Eng

/-- cells laid over cells -/
def ovl : List Value → Nat → List Value → List Value
  | ys, _, [] => ys
  | [], _, _ :: _ => []
  | _ :: ys, 0, v :: vs => v :: ovl ys 0 vs
  | y :: ys, j + 1, v :: vs => y :: ovl ys j (v :: vs)

theorem ovl_nil (ys : List Value) (j : Nat) : ovl ys j [] = ys := by cases ys <;> rfl

theorem ovl_length : ∀ (ys : List Value) (j : Nat) (vs : List Value), (ovl ys j vs).length = ys.length
  | _, _, [] => by rw [ovl_nil]
  | [], _, _ :: _ => by simp [ovl]
  | _ :: ys, 0, v :: vs => by simp [ovl, ovl_length ys 0 vs]
  | y :: ys, j + 1, v :: vs => by simp [ovl, ovl_length ys j (v :: vs)]

theorem ovl_get : ∀ (ys : List Value) (j : Nat) (vs : List Value) (m : Nat), (ovl ys j vs)[m]? = if j ≤ m ∧ m < j + vs.length ∧ m < ys.length then vs[m - j]? else ys[m]?
  | ys, j, [], m => by rw [ovl_nil, if_neg (by simp; omega)]
  | [], j, v :: vs, m => by simp [ovl]
  | y :: ys, 0, v :: vs, 0 => by simp [ovl]
  | y :: ys, 0, v :: vs, m + 1 => by
    simp only [ovl, List.getElem?_cons_succ, ovl_get ys 0 vs m]
    by_cases h : m < vs.length ∧ m < ys.length
    · rw [if_pos ⟨by omega, by omega, h.2⟩, if_pos ⟨by omega, by simp; omega, by simp; omega⟩]
      simp
    · rw [if_neg (by omega), if_neg (by simp; omega)]
  | y :: ys, j + 1, v :: vs, 0 => by
    simp only [ovl, List.getElem?_cons_zero]
    rw [if_neg (by omega)]
  | y :: ys, j + 1, v :: vs, m + 1 => by
    simp only [ovl, List.getElem?_cons_succ, ovl_get ys j (v :: vs) m]
    by_cases h : j ≤ m ∧ m < j + (v :: vs).length ∧ m < ys.length
    · rw [if_pos h, if_pos ⟨by omega, by omega, by simp; omega⟩, show m + 1 - (j + 1) = m - j from by omega]
    · rw [if_neg h, if_neg (by simp at h ⊢; omega)]

theorem wrAt_ovl (cs : Array Value) (j : Nat) (vs : List Value) : (wrAt cs j vs).toList = ovl cs.toList j vs := by
  apply List.ext_getElem?
  intro m
  rw [ovl_get, Array.getElem?_toList]
  by_cases h : j ≤ m ∧ m < j + vs.length ∧ m < cs.toList.length
  · rw [if_pos h]
    obtain ⟨q, rfl⟩ := Nat.exists_eq_add_of_le h.1
    rw [wrAt_in _ _ _ _ (by omega) (by simpa using h.2.2), Nat.add_sub_cancel_left]
  · rw [if_neg h, Array.getElem?_toList]
    rcases Nat.lt_or_ge m cs.size with hl | hl
    · exact wrAt_out _ _ _ _ (by simp only [Array.length_toList] at h; omega)
    · rw [Array.getElem?_eq_none (by rw [wrAt_size]; exact hl), Array.getElem?_eq_none hl]

theorem ovl_skip : ∀ (c d : List Value) (j : Nat) (vs : List Value), c.length ≤ j → ovl (c ++ d) j vs = c ++ ovl d (j - c.length) vs
  | [], d, j, vs, _ => by simp
  | y :: c, d, j, [], h => by simp [ovl_nil]
  | y :: c, d, 0, v :: vs, h => by simp at h
  | y :: c, d, j + 1, v :: vs, h => by
    simp only [List.length_cons] at h
    simp only [List.cons_append, ovl, List.length_cons]
    rw [ovl_skip c d j (v :: vs) (by omega), show j + 1 - (c.length + 1) = j - c.length from by omega]

theorem ovl_split : ∀ (c d : List Value) (j : Nat) (vs : List Value), j ≤ c.length → ovl (c ++ d) j vs = ovl c j (vs.take (c.length - j)) ++ ovl d 0 (vs.drop (c.length - j))
  | [], d, j, vs, h => by
    have : j = 0 := by simpa using h
    subst this
    simp [ovl_nil]
  | y :: c, d, j, [], h => by simp [ovl_nil]
  | y :: c, d, 0, v :: vs, h => by
    have := ovl_split c d 0 vs (by omega)
    simp only [Nat.sub_zero] at this
    simp only [List.cons_append, ovl, List.length_cons, Nat.sub_zero, List.take_succ_cons, List.drop_succ_cons, this]
  | y :: c, d, j + 1, v :: vs, h => by
    simp only [List.length_cons] at h
    have := ovl_split c d j (v :: vs) (by omega)
    simp only [List.cons_append, ovl, List.length_cons, this, show c.length + 1 - (j + 1) = c.length - j from by omega]
    cases hk : c.length - j with
    | zero => simp [ovl_nil]
    | succ n => simp [List.take_succ_cons, ovl]

/-- where a slice that goes over lies -/
def Src.ref (k i q : Nat) : Src → Option Ref
  | .nil => none
  | .loc id _ _ _ => some (.l id)
  | .own _ => some (.o k i q)
def Src.at : Src → Nat
  | .nil => 0
  | .loc _ i0 _ _ => i0
  | .own i0 => i0

/-- where a slice lies that has gone over -/
def newPl (L : Ref → Option Pl) (k i q : Nat) (t : Ty) (g : Nat) (src : Src) : Pl := match src.ref k i q with
  | none => ⟨0, 0, t.size, g, 0, true⟩
  | some r => match L r with
    | some p => { p with o := p.o + src.at * p.w, gen := g }
    | none => ⟨0, 0, t.size, g, 0, true⟩

section
variable {c : Ctx} {I : Nat → Prop} {L : Ref → Option Pl} {s : St} {a : Act} {w : World} {call : CallF}

/-- a slice goes over -/
def Taken (L : Ref → Option Pl) (s : St) (k i q : Nat) (t : Ty) (l' : List (Val t)) (src : Src) (v : Value) : Prop :=
  ∃ ad cap, v = .slice ad l'.length cap ∧ l'.length ≤ cap ∧ (l'.length ≠ 0 → ad.isSome = true) ∧ match src.ref k i q with
  | none => cap = 0
  | some r => ∃ p b l0, L r = some p ∧ s.rd r = some b ∧ b.frozen = false ∧ b.gen = p.gen ∧ b.ct = .sl t l0 ∧ (∀ id i0 t' g, src = .loc id i0 t' g → t' = t ∧ g = b.gen) ∧ src.at + l'.length ≤ l0.length ∧ l' = (l0.drop src.at).take l'.length ∧
      (cap = 0 ∨ (p.virt = false ∧ ad = some ⟨p.b, p.o + src.at * p.w, none⟩ ∧ p.o + (src.at + cap) * p.w ≤ p.size))

theorem rdH_obj {h : List (Option Blk)} {k i q : Nat} {b : Blk} (e : rdH h (.o k i q) = some b) : b.frozen = false := by
  obtain ⟨_, _, _, _, _, _, _, hv⟩ := rdH_o e
  cases q with
  | zero => simp only [viewO, Option.some.injEq] at hv; subst hv; rfl
  | succ q =>
    simp only [viewO] at hv
    split at hv
    · cases hv
    · split at hv
      · simp only [Option.some.injEq] at hv; subst hv; rfl
      · cases hv

theorem takeO_sound (h : Sim c I L s a w) {k i q : Nat} {t : Ty} {y : AV} {v : Value} (hy : Rep (c.rc I L w) L y v) {l' : List (Val t)} {src : Src} {rs : List Nat} (e : (takeO k i q t y).run call s.rd = some ((l', src), rs)) :
    Taken L s k i q t l' src v := by
  unfold takeO at e
  split at e
  · obtain ⟨e1, rfl⟩ := HM.run_ret e
    simp only [Prod.mk.injEq] at e1
    obtain ⟨rfl, rfl⟩ := e1
    simp only [Rep] at hy
    exact ⟨none, 0, hy, Nat.le_refl _, fun h => absurd rfl h, rfl⟩
  · rename_i t0 id i0 n g
    obtain ⟨b, l1, hb, e1, rfl⟩ := HM.run_rd e
    split at e1
    · rename_i hc
      obtain ⟨hg, hz⟩ := hc
      split at e1
      · rename_i t' l hct
        split at e1
        · rename_i htt
          subst htt
          obtain ⟨hle, e2⟩ := HM.run_chk e1
          obtain ⟨e3, rfl⟩ := HM.run_ret e2
          simp only [Prod.mk.injEq] at e3
          obtain ⟨rfl, rfl⟩ := e3
          have hle := of_decide_eq_true hle
          simp only [castL_self] at hle ⊢
          have hln : ((l.drop i0).take n).length = n := by simp; omega
          simp only [Rep] at hy
          obtain ⟨p, hp, hw, hge, ad, cap, hs, hcap, hsome, hcur⟩ := hy
          obtain ⟨⟨hpg, _⟩, _⟩ := h.get hp hb
          refine ⟨ad, cap, by rw [hln]; exact hs, by rw [hln]; exact hcap, by rw [hln]; exact hsome, ?_⟩
          simp only [Src.ref, Src.at]
          refine ⟨p, b, l, hp, hb, hz, hpg.symm, hct, fun _ _ _ _ e => ?_, by rw [hln]; exact hle, by rw [hln], hcur (by rw [hpg, hg])⟩
          injection e with e1 e2 e3 e4
          exact ⟨e3.symm, e4.symm⟩
        · cases e1
      · cases e1
    · cases e1
  · rename_i t0 k' i' q' i0 n g
    split at e
    · rename_i hkq
      obtain ⟨rfl, rfl⟩ := hkq
      obtain ⟨b, l1, hb, e1, rfl⟩ := HM.run_rd e
      split at e1
      · rename_i hg
        split at e1
        · rename_i t' l hct
          split at e1
          · rename_i htt
            subst htt
            obtain ⟨hii, e2⟩ := HM.run_chk e1
            have hii := of_decide_eq_true hii
            subst hii
            obtain ⟨hle, e2⟩ := HM.run_chk e2
            obtain ⟨e3, rfl⟩ := HM.run_ret e2
            simp only [Prod.mk.injEq] at e3
            obtain ⟨rfl, rfl⟩ := e3
            have hle := of_decide_eq_true hle
            simp only [castL_self] at hle ⊢
            have hln : ((l.drop i0).take n).length = n := by simp; omega
            simp only [Rep] at hy
            obtain ⟨p, hp, hw, hge, ad, cap, hs, hcap, hsome, hcur⟩ := hy
            obtain ⟨⟨hpg, _⟩, _⟩ := h.get hp hb
            refine ⟨ad, cap, by rw [hln]; exact hs, by rw [hln]; exact hcap, by rw [hln]; exact hsome, ?_⟩
            simp only [Src.ref, Src.at]
            exact ⟨p, b, l, hp, hb, rdH_obj hb, hpg.symm, hct, (fun _ _ _ _ e => by cases e), by rw [hln]; exact hle, by rw [hln], hcur (by rw [hpg, hg])⟩
          · cases e1
        · cases e1
      · cases e1
    · cases e
  · cases e

/-- what lies in an object's variable behind a store -/
def RowPut (R : RC) (L : Ref → Option Pl) (s : St) (k i : Nat) (st : Nat → Bool) (gs : List Nat) : (cs : List Cell) → Nat → Val (rowsTy cs) → Val (rowsTy cs) → List (Nat × Src) → List Value → Prop
  | [], _, _, _, u, zs => u = [] ∧ zs = []
  | .d t :: r, q, x, x', u, zs => ∃ c d, zs = c ++ d ∧ RepT R t x'.1 c ∧ RowPut R L s k i st gs r q x.2 x'.2 u d
  | .sl t :: r, q, x, x', u, zs => ∃ v d, zs = v :: d ∧
      ((x'.1 = x.1 ∧ Rep R L (match st q with | true => .top | false => .lsl t (.o k i q) 0 (List.length x.1) (gs.getD q 0)) v ∧ RowPut R L s k i st gs r (q + 1) x.2 x'.2 u d) ∨
       (∃ src u', u = (q, src) :: u' ∧ Taken L s k i q t x'.1 src v ∧ RowPut R L s k i st gs r (q + 1) x.2 x'.2 u' d))

theorem RowPut.same {R : RC} {L : Ref → Option Pl} {s : St} {k i : Nat} {st : Nat → Bool} {gs : List Nat} : ∀ {cs : List Cell} {q : Nat} {x : Val (rowsTy cs)} {zs : List Value}, RepL R L (rowO k i st gs cs q x) zs → RowPut R L s k i st gs cs q x x [] zs
  | [], _, _, _, h => ⟨rfl, h⟩
  | .d t :: r, q, x, zs, h => by
    simp only [rowO] at h
    obtain ⟨c, d, rfl, hc, hd⟩ := h.split
    exact ⟨c, d, rfl, RepL.toT t hc, RowPut.same hd⟩
  | .sl t :: r, q, x, zs, h => by
    simp only [rowO, RepL] at h
    obtain ⟨v, d, rfl, hv, hd⟩ := h
    exact ⟨v, d, rfl, .inl ⟨rfl, hv, RowPut.same hd⟩⟩

theorem storeO_sound (h : Sim c I L s a w) {k i : Nat} {st : Nat → Bool} {gs : List Nat} : ∀ {cs : List Cell} {q : Nat} {x x' : Val (rowsTy cs)} {j : Nat} {new : List AV} {f : List Ref} {u : List (Nat × Src)} {rs : List Nat} {vs ys : List Value},
    (storeO c.E.toNames k i cs q x j new).run call s.rd = some ((x', f, u), rs) → RepL (c.rc I L w) L new vs → RepL (c.rc I L w) L (rowO k i st gs cs q x) ys →
    Told L s f ∧ j + vs.length ≤ ys.length + (if new = [] then j else 0) ∧ ∀ I' : Nat → Prop, (∀ b, I b → I' b) → (∀ id, id ∈ f → ∀ p, L id = some p → p.virt = false → I' p.b) → RowPut (c.rc I' L w) L s k i st gs cs q x x' u (ovl ys j vs) := by
  have none' : ∀ {cs : List Cell} {q : Nat} {x x' : Val (rowsTy cs)} {j : Nat} {f : List Ref} {u : List (Nat × Src)} {rs : List Nat} {vs ys : List Value}, (HM.ret (x, ([] : List Ref), ([] : List (Nat × Src)))).run call s.rd = some ((x', f, u), rs) → RepL (c.rc I L w) L [] vs → RepL (c.rc I L w) L (rowO k i st gs cs q x) ys →
      Told L s f ∧ j + vs.length ≤ ys.length + (if ([] : List AV) = [] then j else 0) ∧ ∀ I' : Nat → Prop, (∀ b, I b → I' b) → (∀ id, id ∈ f → ∀ p, L id = some p → p.virt = false → I' p.b) → RowPut (c.rc I' L w) L s k i st gs cs q x x' u (ovl ys j vs) := by
    intro cs q x x' j f u rs vs ys e hn hy
    obtain ⟨e1, rfl⟩ := HM.run_ret e
    simp only [Prod.mk.injEq] at e1
    obtain ⟨rfl, rfl, rfl⟩ := e1
    simp only [RepL] at hn
    subst hn
    refine ⟨fun r hr => by simp at hr, by simp, fun I' hi _ => ?_⟩
    rw [ovl_nil]
    exact RowPut.same (hy.mono (rle_of_heap hi (fun _ _ => rfl) (LLe.refl L)) (LLe.refl L))
  intro cs
  induction cs with
  | nil =>
    intro q x x' j new f u rs vs ys e hn hy
    cases new with
    | nil => exact none' e hn hy
    | cons y new => cases e
  | cons cell r ih =>
    intro q x x' j new f u rs vs ys e hn hy
    cases new with
    | nil => cases cell <;> exact none' e hn hy
    | cons y new =>
      cases cell with
      | d t =>
        simp only [rowO] at hy
        obtain ⟨yc, yd, rfl, hc, hd⟩ := hy.split
        have hcl : yc.length = t.size := (RepL.toT t hc).length
        simp only [storeO] at e
        split at e
        · rename_i hble
          have hble := Nat.le_of_ble_eq_true hble
          obtain ⟨⟨z, f1, u1⟩, r1, r2, e1, e2, rfl⟩ := HM.run_bind e
          obtain ⟨e3, rfl⟩ := HM.run_ret e2
          simp only [Prod.mk.injEq] at e3
          obtain ⟨rfl, rfl, rfl⟩ := e3
          obtain ⟨g1, g2, g3⟩ := ih e1 hn hd
          rw [if_neg (by simp)] at g2
          refine ⟨g1, by rw [if_neg (by simp), List.length_append]; omega, fun I' hi hh => ?_⟩
          rw [ovl_skip _ _ _ _ (by omega), hcl]
          exact ⟨yc, _, rfl, (RepL.toT t hc).mono (rle_of_heap hi (fun _ _ => rfl) (LLe.refl L)), g3 I' hi hh⟩
        · rename_i hble
          have hlt : j < t.size := by
            rcases Nat.lt_or_ge j t.size with hl | hl
            · exact hl
            · rw [Nat.ble_eq_true_of_le hl] at hble; cases hble
          obtain ⟨⟨ya, f1⟩, r1, r2, e1, e2, rfl⟩ := HM.run_bind e
          simp only at e2
          split at e2
          · rename_i z hdec
            obtain ⟨⟨z2, f2, u2⟩, r3, r4, e3, e4, rfl⟩ := HM.run_bind e2
            obtain ⟨e5, rfl⟩ := HM.run_ret e4
            simp only [Prod.mk.injEq] at e5
            obtain ⟨rfl, rfl, rfl⟩ := e5
            obtain ⟨g1, g2⟩ := exportL_sound h 8 e1 (hn.take (t.size - j))
            obtain ⟨k1, k2, k3⟩ := ih e3 (hn.drop (t.size - j)) hd
            have hvl := hn.length
            refine ⟨fun r hr => ?_, ?_, fun I' hi hh => ?_⟩
            · rcases List.mem_append.1 hr with hr | hr
              · exact (g1 r hr).2
              · exact k1 r hr
            · rw [if_neg (by simp), List.length_append]
              simp only [List.length_drop, Nat.zero_add] at k2
              split at k2 <;> omega
            · rw [ovl_split _ _ _ _ (by omega), hcl]
              refine ⟨_, _, rfl, ?_, k3 I' hi fun id hid => hh id (List.mem_append_right _ hid)⟩
              have hr := g2 I' hi fun id hid => hh id (List.mem_append_left _ hid)
              have hrow : RepL (c.rc I' L w) noL (setRow (cellsT t x.1) j ya) (wrAt yc.toArray j (vs.take (t.size - j))).toList :=
                setRow_sound (RepL.ofT t (show RepT (c.rc I' L w) t x.1 yc.toArray.toList from (RepL.toT t hc).mono (rle_of_heap hi (fun _ _ => rfl) (LLe.refl L)))) hr
              obtain ⟨c1, c2, h1, h2, h3⟩ := decT_sound t hdec hrow
              simp only [RepL] at h3
              subst h3
              rw [wrAt_ovl] at h1
              rw [List.append_nil] at h1
              have : yc.toArray.toList = yc := rfl
              rw [this] at h1
              rw [h1]
              exact h2
          · cases e2
      | sl t =>
        simp only [rowO, RepL] at hy
        obtain ⟨v0, yd, rfl, hv0, hd⟩ := hy
        simp only [RepL] at hn
        obtain ⟨v, vt, rfl, hv, hvt⟩ := hn
        cases j with
        | succ j =>
          simp only [storeO] at e
          obtain ⟨⟨z, f1, u1⟩, r1, r2, e1, e2, rfl⟩ := HM.run_bind e
          obtain ⟨e3, rfl⟩ := HM.run_ret e2
          simp only [Prod.mk.injEq] at e3
          obtain ⟨rfl, rfl, rfl⟩ := e3
          obtain ⟨g1, g2, g3⟩ := ih e1 (show RepL (c.rc I L w) L (y :: new) (v :: vt) by simp only [RepL]; exact ⟨v, vt, rfl, hv, hvt⟩) hd
          rw [if_neg (by simp)] at g2
          refine ⟨g1, by rw [if_neg (by simp)]; simp only [List.length_cons] at g2 ⊢; omega, fun I' hi hh => ?_⟩
          simp only [ovl]
          exact ⟨v0, _, rfl, .inl ⟨rfl, hv0.mono (rle_of_heap hi (fun _ _ => rfl) (LLe.refl L)) (LLe.refl L), g3 I' hi hh⟩⟩
        | zero =>
          simp only [storeO] at e
          obtain ⟨⟨l, src⟩, r1, r2, e1, e2, rfl⟩ := HM.run_bind e
          obtain ⟨⟨z, f1, u1⟩, r3, r4, e3, e4, rfl⟩ := HM.run_bind e2
          obtain ⟨e5, rfl⟩ := HM.run_ret e4
          simp only [Prod.mk.injEq] at e5
          obtain ⟨rfl, rfl, rfl⟩ := e5
          obtain ⟨g1, g2, g3⟩ := ih e3 hvt hd
          refine ⟨g1, ?_, fun I' hi hh => ?_⟩
          · rw [if_neg (by simp)]
            simp only [List.length_cons, Nat.zero_add] at g2 ⊢
            split at g2 <;> omega
          · simp only [ovl]
            exact ⟨v, _, rfl, .inr ⟨src, u1, rfl, takeO_sound h hv e1, g3 I' hi hh⟩⟩

/-! What a row is made of behind a store. -/

theorem RowPut.ge {R : RC} {L : Ref → Option Pl} {s : St} {k i : Nat} {st : Nat → Bool} {gs : List Nat} : ∀ {cs : List Cell} {q : Nat} {x x' : Val (rowsTy cs)} {u : List (Nat × Src)} {zs : List Value}, RowPut R L s k i st gs cs q x x' u zs → ∀ p, p ∈ u → q ≤ p.1
  | [], _, _, _, _, _, h, p, hp => by rw [h.1] at hp; cases hp
  | .d t :: r, q, x, x', u, zs, h, p, hp => by
    obtain ⟨_, _, _, _, h⟩ := h
    exact h.ge p hp
  | .sl t :: r, q, x, x', u, zs, h, p, hp => by
    obtain ⟨_, _, _, h | ⟨src, u', rfl, _, h⟩⟩ := h
    · have := h.2.2.ge p hp; omega
    · rcases List.mem_cons.1 hp with rfl | hp
      · exact Nat.le_refl _
      · have := h.ge p hp; omega

theorem RowPut.other {R : RC} {L : Ref → Option Pl} {s : St} {k i : Nat} {st : Nat → Bool} {gs : List Nat} {want : Nat} : ∀ {cs : List Cell} {q : Nat} {x x' : Val (rowsTy cs)} {u : List (Nat × Src)} {zs : List Value}, RowPut R L s k i st gs cs q x x' u zs → (∀ p, p ∈ u → p.1 ≠ want) →
    slO want cs q x' = slO want cs q x
  | [], _, _, _, _, _, _, _ => rfl
  | .d t :: r, q, x, x', u, zs, h, hn => by
    obtain ⟨_, _, _, _, h⟩ := h
    simp only [slO]
    exact h.other hn
  | .sl t :: r, q, x, x', u, zs, h, hn => by
    obtain ⟨_, _, _, ⟨h1, _, h⟩ | ⟨src, u', rfl, _, h⟩⟩ := h
    · simp only [slO]
      rw [h1, h.other hn]
    · simp only [slO]
      have hq : Nat.beq q want = false := by
        cases h2 : Nat.beq q want with
        | true => exact absurd (Nat.eq_of_beq_eq_true h2) (hn (q, src) (by simp))
        | false => rfl
      rw [hq]
      exact h.other fun p hp => hn p (by simp [hp])

theorem RowPut.mem {R : RC} {L : Ref → Option Pl} {s : St} {k i : Nat} {st : Nat → Bool} {gs : List Nat} : ∀ {cs : List Cell} {q : Nat} {x x' : Val (rowsTy cs)} {u : List (Nat × Src)} {zs : List Value}, RowPut R L s k i st gs cs q x x' u zs → ∀ want src, (want, src) ∈ u →
    ∃ (t : Ty) (l0 l' : List (Val t)) (v : Value), slO want cs q x = some ⟨t, l0⟩ ∧ slO want cs q x' = some ⟨t, l'⟩ ∧ Taken L s k i want t l' src v
  | [], _, _, _, _, _, h, want, src, hm => by rw [h.1] at hm; cases hm
  | .d t :: r, q, x, x', u, zs, h, want, src, hm => by
    obtain ⟨_, _, _, _, h⟩ := h
    simp only [slO]
    exact h.mem want src hm
  | .sl t :: r, q, x, x', u, zs, h, want, src, hm => by
    obtain ⟨v, _, _, ⟨h1, _, h⟩ | ⟨src', u', rfl, ht, h⟩⟩ := h
    · have hge := h.ge _ hm
      have hq : Nat.beq q want = false := by
        cases h2 : Nat.beq q want with
        | true => have := Nat.eq_of_beq_eq_true h2; simp only at hge; omega
        | false => rfl
      simp only [slO, hq]
      exact h.mem want src hm
    · rcases List.mem_cons.1 hm with hm | hm
      · injection hm with e1 e2
        subst e1; subst e2
        simp only [slO, Nat.beq_refl]
        exact ⟨t, _, _, v, rfl, rfl, ht⟩
      · have hge := h.ge _ hm
        have hq : Nat.beq q want = false := by
          cases h2 : Nat.beq q want with
          | true => have := Nat.eq_of_beq_eq_true h2; simp only at hge; omega
          | false => rfl
        simp only [slO, hq]
        exact h.mem want src hm

theorem RowPut.nodup {R : RC} {L : Ref → Option Pl} {s : St} {k i : Nat} {st : Nat → Bool} {gs : List Nat} : ∀ {cs : List Cell} {q : Nat} {x x' : Val (rowsTy cs)} {u : List (Nat × Src)} {zs : List Value}, RowPut R L s k i st gs cs q x x' u zs → (u.map (·.1)).Nodup
  | [], _, _, _, _, _, h => by rw [h.1]; simp
  | .d t :: r, q, x, x', u, zs, h => by
    obtain ⟨_, _, _, _, h⟩ := h
    exact h.nodup
  | .sl t :: r, q, x, x', u, zs, h => by
    obtain ⟨_, _, _, h | ⟨src, u', rfl, _, h⟩⟩ := h
    · exact h.2.2.nodup
    · simp only [List.map_cons, List.nodup_cons]
      refine ⟨fun hm => ?_, h.nodup⟩
      obtain ⟨p, hp, e⟩ := List.mem_map.1 hm
      have := h.ge p hp
      omega

/-- the row, read as it is then -/
theorem RowPut.row {R R' : RC} {L L' : Ref → Option Pl} {s : St} {k i : Nat} {st st' : Nat → Bool} {gs gs' : List Nat} (hr : RLe R R') (hl : LLe L L') {U : List (Nat × Src)}
    (h1 : ∀ q, (∀ p, p ∈ U → p.1 ≠ q) → st' q = st q ∧ gs'.getD q 0 = gs.getD q 0)
    {CS : List Cell} {X : Val (rowsTy CS)} (h2 : ∀ q src (t : Ty) (l' : List (Val t)) (v : Value), (q, src) ∈ U → slO q CS 1 X = some ⟨t, l'⟩ → Taken L s k i q t l' src v → st' q = false ∧ Rep R' L' (.lsl t (.o k i q) 0 l'.length (gs'.getD q 0)) v) :
    ∀ {cs : List Cell} {q : Nat} {x x' : Val (rowsTy cs)} {u : List (Nat × Src)} {zs : List Value}, RowPut R L s k i st gs cs q x x' u zs → (∀ p, p ∈ u → p ∈ U) → (∀ p, p ∈ U → q ≤ p.1 → p ∈ u) → (∀ want, q ≤ want → slO want CS 1 X = slO want cs q x') → RepL R' L' (rowO k i st' gs' cs q x') zs
  | [], _, _, _, _, _, h, _, _, _ => by simp only [rowO, RepL]; exact h.2
  | .d t :: r, q, x, x', u, zs, h, hu, hu', hX => by
    obtain ⟨c, d, rfl, hc, hd⟩ := h
    simp only [rowO]
    exact (RepL.ofT t (hc.mono hr)).append (hd.row hr hl h1 h2 hu hu' fun want hw => by rw [hX want hw]; simp only [slO])
  | .sl t :: r, q, x, x', u, zs, h, hu, hu', hX => by
    have hX' : ∀ want, q + 1 ≤ want → slO want CS 1 X = slO want r (q + 1) x'.2 := fun want hw => by
      rw [hX want (by omega)]
      have : Nat.beq q want = false := by
        cases hb : Nat.beq q want with
        | true => have := Nat.eq_of_beq_eq_true hb; omega
        | false => rfl
      simp only [slO, this]
    have hXq : slO q CS 1 X = some ⟨t, x'.1⟩ := by rw [hX q (Nat.le_refl _)]; simp only [slO, Nat.beq_refl]
    obtain ⟨v, d, rfl, ⟨e, hv, hd⟩ | ⟨src, u', rfl, ht, hd⟩⟩ := h
    · have hq : ∀ p, p ∈ U → p.1 ≠ q := fun p hp he => by
        have := hd.ge p (hu' p hp (by omega))
        omega
      obtain ⟨g1, g2⟩ := h1 q hq
      simp only [rowO, RepL]
      refine ⟨v, d, rfl, ?_, hd.row hr hl h1 h2 hu (fun p hp hle => hu' p hp (by omega)) hX'⟩
      rw [g1, g2, e]
      exact hv.mono hr hl
    · obtain ⟨g1, g2⟩ := h2 q src t x'.1 v (hu _ (by simp)) hXq ht
      simp only [rowO, RepL]
      refine ⟨v, d, rfl, ?_, hd.row hr hl h1 h2 (fun p hp => hu p (by simp [hp])) (fun p hp hle => ?_) hX'⟩
      · rw [g1]
        exact g2
      · rcases List.mem_cons.1 (hu' p hp (by omega)) with rfl | hp'
        · simp only at hle; omega
        · exact hp'

end
end Go.Eng

/-
  The abstract machine, part 16b: a store into an object's variable; an object more.
-/
namespace Go.Eng

theorem nodup_fst {α β : Type} : ∀ {u : List (α × β)}, (u.map (·.1)).Nodup → ∀ {a : α} {b b' : β}, (a, b) ∈ u → (a, b') ∈ u → b = b'
  | [], _, _, _, _, h, _ => by cases h
  | p :: r, hn, a, b, b', h, h' => by
    simp only [List.map_cons, List.nodup_cons] at hn
    rcases List.mem_cons.1 h with e | h <;> rcases List.mem_cons.1 h' with e' | h'
    · rw [← e'] at e; injection e
    · exact absurd (List.mem_map.2 ⟨_, h', by rw [← e]⟩) hn.1
    · exact absurd (List.mem_map.2 ⟨_, h, by rw [← e']⟩) hn.1
    · exact nodup_fst hn.2 h h'

theorem nodupN_cons {x : Nat} {r : List Nat} (h : nodupN (x :: r) = true) : x ∉ r ∧ nodupN r = true := by
  simp only [nodupN, Bool.and_eq_true, Bool.not_eq_true', List.any_eq_false] at h
  exact ⟨fun hm => h.1 x hm (Nat.beq_refl x), h.2⟩

theorem srcIds_mem : ∀ {u : List (Nat × Src)} {id : Nat}, id ∈ srcIds u → ∃ q i0 t g, (q, Src.loc id i0 t g) ∈ u
  | [], _, h => by cases h
  | (q, src) :: r, id, h => by
    cases src with
    | loc id' i0 t g =>
      simp only [srcIds, List.mem_cons] at h
      rcases h with rfl | h
      · exact ⟨q, i0, t, g, by simp⟩
      · obtain ⟨q', i0', t', g', hm⟩ := srcIds_mem h
        exact ⟨q', i0', t', g', by simp [hm]⟩
    | nil =>
      simp only [srcIds] at h
      obtain ⟨q', i0', t', g', hm⟩ := srcIds_mem h
      exact ⟨q', i0', t', g', by simp [hm]⟩
    | own i0 =>
      simp only [srcIds] at h
      obtain ⟨q', i0', t', g', hm⟩ := srcIds_mem h
      exact ⟨q', i0', t', g', by simp [hm]⟩

theorem mem_srcIds : ∀ {u : List (Nat × Src)} {q id i0 : Nat} {t : Ty} {g : Nat}, (q, Src.loc id i0 t g) ∈ u → id ∈ srcIds u
  | [], _, _, _, _, _, h => by cases h
  | (q', src) :: r, q, id, i0, t, g, h => by
    rcases List.mem_cons.1 h with e | h
    · injection e with e1 e2
      subst e2
      simp [srcIds]
    · have := mem_srcIds h
      cases src <;> simp [srcIds, this]

theorem srcIds_inj : ∀ {u : List (Nat × Src)}, nodupN (srcIds u) = true → ∀ {q q' id i0 i0' : Nat} {t t' : Ty} {g g' : Nat}, (q, Src.loc id i0 t g) ∈ u → (q', Src.loc id i0' t' g') ∈ u → q = q'
  | [], _, _, _, _, _, _, _, _, _, _, h, _ => by cases h
  | (q0, src) :: r, hn, q, q', id, i0, i0', t, t', g, g', h, h' => by
    have tl : nodupN (srcIds r) = true := by
      cases src with
      | loc id' _ _ _ => exact (nodupN_cons hn).2
      | nil => exact hn
      | own _ => exact hn
    rcases List.mem_cons.1 h with e | h1 <;> rcases List.mem_cons.1 h' with e' | h1'
    · injection e with e _; injection e' with e' _; rw [e, e']
    · injection e with e1 e2
      subst e2
      exact absurd (mem_srcIds h1') (nodupN_cons hn).1
    · injection e' with e1 e2
      subst e2
      exact absurd (mem_srcIds h1) (nodupN_cons hn).1
    · exact srcIds_inj tl h1 h1'

/-- blocks that went over, laid into the heap -/
theorem goneA_sound : ∀ {u : List (Nat × Src)} {h : List (Option Blk)}, nodupN (srcIds u) = true → (∀ id, id ∈ srcIds u → id < h.length) → (∀ id b, id ∈ srcIds u → h[id]? = some (some b) → b.isTab = false) →
    (putAll h (goneA u)).length = h.length ∧ (∀ r, (∀ id, id ∈ srcIds u → r ≠ .l id) → rdv (putAll h (goneA u)) r = rdv h r) ∧ (∀ k, k ∉ srcIds u → (putAll h (goneA u))[k]? = h[k]?) ∧
      ∀ q id i0 t g, (q, Src.loc id i0 t g) ∈ u → rdv (putAll h (goneA u)) (.l id) = some { ct := .sl t [], gen := g + 1, frozen := false }
  | [], h, _, _, _ => ⟨rfl, fun _ _ => rfl, fun _ _ => rfl, fun _ _ _ _ _ hm => by cases hm⟩
  | (q0, src) :: r, h, hn, hl, ht => by
    cases src with
    | nil =>
      obtain ⟨h1, h2, h3, h4⟩ := goneA_sound (u := r) (h := h) hn hl ht
      refine ⟨h1, h2, h3, fun q id i0 t g hm => ?_⟩
      rcases List.mem_cons.1 hm with e | hm
      · injection e with _ e; cases e
      · exact h4 q id i0 t g hm
    | own _ =>
      obtain ⟨h1, h2, h3, h4⟩ := goneA_sound (u := r) (h := h) hn hl ht
      refine ⟨h1, h2, h3, fun q id i0 t g hm => ?_⟩
      rcases List.mem_cons.1 hm with e | hm
      · injection e with _ e; cases e
      · exact h4 q id i0 t g hm
    | loc id0 i1 t0 g0 =>
      obtain ⟨hni, hn'⟩ := nodupN_cons hn
      simp only [srcIds, List.mem_cons, forall_eq_or_imp] at hl ht
      have hdt : ({ ct := .sl t0 [], gen := g0 + 1, frozen := false } : Blk).isTab = false := rfl
      obtain ⟨h1, h2, h3, h4⟩ := goneA_sound (u := r) (h := h.set id0 (some { ct := .sl t0 [], gen := g0 + 1, frozen := false })) hn' (fun id hid => by simpa using hl.2 id hid) (fun id b hid hb => by
        have : id0 ≠ id := fun e => hni (by rw [e]; exact hid)
        rw [List.getElem?_set_ne this] at hb
        exact ht id b (.inr hid) hb)
      simp only [goneA, putAll, putH]
      refine ⟨by simpa using h1, fun r' hr' => ?_, fun k hk => ?_, fun q id i0 t g hm => ?_⟩
      · simp only [srcIds, List.mem_cons, forall_eq_or_imp] at hr'
        rw [h2 r' hr'.2]
        exact rdv_set (fun b hb => ht id0 b (.inl rfl) hb) (fun b hb => by injection hb with hb; subst hb; exact hdt) hr'.1
      · simp only [srcIds, List.mem_cons, not_or] at hk
        rw [h3 k hk.2, List.getElem?_set_ne (fun e => hk.1 e.symm)]
      · rcases List.mem_cons.1 hm with e | hm
        · injection e with _ e
          injection e with e1 e2 e3 e4
          subst e1; subst e3; subst e4
          rw [h2 (.l id) (fun id' hid' e => hni (by injection e with e; rw [e]; exact hid')), rdv_set_self hl.1]
        · exact h4 q id i0 t g hm

theorem backA_sound {call : CallF} {h : Ref → Option Blk} {i : Nat} {u : List Nat} : ∀ {st st' : List (Nat × Nat)} {rs : List Nat}, (backA i u st).run call h = some (st', rs) → (∀ p, p ∈ st → p.1 ∈ u → p.2 = i) ∧ (∀ p, p ∈ st' ↔ p ∈ st ∧ p.1 ∉ u)
  | [], st', rs, e => by
    obtain ⟨rfl, rfl⟩ := HM.run_ret e
    exact ⟨(fun p hp => by cases hp), fun p => by simp⟩
  | p :: r, st', rs, e => by
    simp only [backA] at e
    split at e
    · rename_i hm
      obtain ⟨hi, e⟩ := HM.run_chk e
      have hi := of_decide_eq_true hi
      obtain ⟨h1, h2⟩ := backA_sound e
      obtain ⟨x, hx, hb⟩ := List.any_eq_true.1 hm
      have hpu : p.1 ∈ u := by rw [Nat.eq_of_beq_eq_true hb]; exact hx
      refine ⟨fun y hy hyu => ?_, fun y => ?_⟩
      · rcases List.mem_cons.1 hy with rfl | hy
        · exact hi
        · exact h1 y hy hyu
      · rw [h2, List.mem_cons]
        constructor
        · rintro ⟨a, b⟩; exact ⟨.inr a, b⟩
        · rintro ⟨rfl | a, b⟩
          · exact absurd hpu b
          · exact ⟨a, b⟩
    · rename_i hm
      obtain ⟨l, l1, l2, e1, e2, rfl⟩ := HM.run_bind e
      obtain ⟨rfl, rfl⟩ := HM.run_ret e2
      obtain ⟨h1, h2⟩ := backA_sound e1
      have hpu : p.1 ∉ u := fun hx => by
        have : u.any (Nat.beq p.1) = true := List.any_eq_true.2 ⟨_, hx, Nat.beq_refl _⟩
        rw [this] at hm
        cases hm
      refine ⟨fun y hy hyu => ?_, fun y => ?_⟩
      · rcases List.mem_cons.1 hy with rfl | hy
        · exact absurd hyu hpu
        · exact h1 y hy hyu
      · rw [List.mem_cons, h2, List.mem_cons]
        constructor
        · rintro (rfl | ⟨a, b⟩)
          · exact ⟨.inl rfl, hpu⟩
          · exact ⟨.inr a, b⟩
        · rintro ⟨rfl | a, b⟩
          · exact .inl rfl
          · exact .inr ⟨a, b⟩

theorem turnG_get : ∀ {u gs : List Nat} {q : Nat}, u.Nodup → (∀ x, x ∈ u → x < gs.length) → (turnG u gs).getD q 0 = if q ∈ u then gs.getD q 0 + 2 else gs.getD q 0
  | [], gs, q, _, _ => by simp [turnG]
  | x :: r, gs, q, hn, hl => by
    simp only [List.nodup_cons] at hn
    simp only [turnG]
    rw [turnG_get hn.2 (fun y hy => by simpa using hl y (by simp [hy]))]
    have hx := hl x (by simp)
    by_cases e : q = x
    · subst e
      rw [if_neg hn.1, if_pos (by simp), List.getD_eq_getElem?_getD, List.getElem?_set_self hx]
      rfl
    · have h1 : (gs.set x (gs.getD x 0 + 2)).getD q 0 = gs.getD q 0 := getD_setn (fun h => e h.symm)
      rw [h1]
      by_cases hq : q ∈ r
      · rw [if_pos hq, if_pos (by simp [hq])]
      · rw [if_neg hq, if_neg (by simp [e, hq])]

section
variable {c : Ctx} {I : Nat → Prop} {L : Ref → Option Pl} {s : St} {a : Act} {w : World} {call : CallF}

/-- a slice that went over lies at its new place -/
theorem newPl_ok (h : Sim c I L s a w) {s0 : St} {k i q G : Nat} {t : Ty} {l' : List (Val t)} {src : Src} {v : Value} (ht : Taken L s0 k i q t l' src v) (hrd : ∀ r, src.ref k i q = some r → s.rd r = s0.rd r) :
    (newPl L k i q t G src).w = t.size ∧ (newPl L k i q t G src).gen = G ∧ BlkOK (c.rc I L w) L w (newPl L k i q t G src) { ct := .sl t l', gen := G, frozen := false } ∧
    (∀ R' L' , L' (.o k i q) = some (newPl L k i q t G src) → Rep R' L' (.lsl t (.o k i q) 0 l'.length G) v) ∧
    ((newPl L k i q t G src).virt = false → ∃ r p, src.ref k i q = some r ∧ L r = some p ∧ p.virt = false ∧ (newPl L k i q t G src).b = p.b ∧ ¬ I p.b) := by
  obtain ⟨ad, cap, hv, hcap, hsome, ht⟩ := ht
  unfold newPl
  cases hr : src.ref k i q with
  | none =>
    rw [hr] at ht
    simp only at ht
    have hl0 : l' = [] := List.length_eq_zero_iff.1 (by omega)
    refine ⟨rfl, rfl, ⟨rfl, .inl ⟨rfl, hl0, rfl⟩⟩, fun R' L' hL => ?_, fun hv => by cases hv⟩
    simp only [Rep]
    exact ⟨_, hL, rfl, Nat.le_refl _, ad, cap, hv, hcap, hsome, fun _ => .inl ht⟩
  | some r =>
    rw [hr] at ht
    simp only at ht
    obtain ⟨p, b, l0, hp, hb, hz, hbg, hct, _, hle, hl', hor⟩ := ht
    have hb' : s.rd r = some b := by rw [hrd r hr]; exact hb
    obtain ⟨⟨hpg, hk⟩, hf⟩ := h.get hp hb'
    rw [hct] at hk
    simp only [hp]
    have hpw : p.w = t.size := by
      rcases hk with ⟨_, _, h1⟩ | ⟨_, h1, _⟩
      · exact h1
      · exact h1
    refine ⟨hpw, trivial, ⟨rfl, ?_⟩, fun R' L' hL => ?_, fun hpv => ⟨r, p, rfl, hp, hpv, rfl, hf hz hpv⟩⟩
    · rcases hk with ⟨hpv, rfl, _⟩ | ⟨hpv, _, cs, T, hh, hs, hsz, hrow⟩
      · exact .inl ⟨hpv, by rw [hl']; simp, hpw⟩
      · refine .inr ⟨hpv, hpw, cs, T, hh, hs, ?_, fun j hj => ?_⟩
        · have : (src.at + l'.length) * p.w ≤ l0.length * p.w := Nat.mul_le_mul_right _ hle
          rw [Nat.add_mul] at this
          simp only
          omega
        · have hget : l'.getD j (dfl t) = l0.getD (src.at + j) (dfl t) := by
            rw [hl']
            exact getD_cut l0 src.at l'.length j _ hj
          rw [hget]
          obtain ⟨d, hd, hat⟩ := hrow (src.at + j) (by omega)
          refine ⟨d, hd, ?_⟩
          simp only
          rw [Nat.add_assoc, ← Nat.add_mul]
          exact hat
    · simp only [Rep]
      refine ⟨_, hL, hpw, Nat.le_refl _, ad, cap, hv, hcap, hsome, fun _ => ?_⟩
      rcases hor with h0 | ⟨h1, h2, h3⟩
      · exact .inl h0
      · refine .inr ⟨h1, by simpa using h2, ?_⟩
        simp only [Nat.zero_add]
        rw [Nat.add_mul] at h3
        omega

/-- the row of another object, whose slices were turned -/
theorem rowO_regen {R R' : RC} {L L' : Ref → Option Pl} {k i : Nat} {st st' : Nat → Bool} {gs gs' : List Nat} (hr : RLe R R') (hl : LLe L L')
    (hs : ∀ q, st q = true → st' q = true) (hq : ∀ q, gs'.getD q 0 = gs.getD q 0 ∨ ∀ p, L (.o k i q) = some p → p.gen = gs.getD q 0 → L' (.o k i q) = some { p with gen := gs'.getD q 0 }) (hlt : ∀ q p, L (.o k i q) = some p → st q = false → 1 ≤ q → p.gen = gs.getD q 0) : ∀ {cs : List Cell} {q : Nat} {x : Val (rowsTy cs)} {ys : List Value}, 1 ≤ q →
    RepL R L (rowO k i st gs cs q x) ys → RepL R' L' (rowO k i st' gs' cs q x) ys
  | [], _, _, _, _, h => h
  | .d t :: r, q, x, ys, h1, h => by
    simp only [rowO] at h ⊢
    obtain ⟨c, d, rfl, hc, hd⟩ := h.split
    exact (hc.mono hr hl).append (rowO_regen hr hl hs hq hlt h1 hd)
  | .sl t :: r, q, x, ys, h1, h => by
    simp only [rowO, RepL] at h ⊢
    obtain ⟨y, tl, rfl, hy, ht⟩ := h
    refine ⟨y, tl, rfl, ?_, rowO_regen hr hl hs hq hlt (by omega) ht⟩
    cases h2 : st' q with
    | true => simp [Rep]
    | false =>
      have h3 : st q = false := by
        cases h3 : st q with
        | true => rw [hs q h3] at h2; cases h2
        | false => rfl
      rw [h3] at hy
      rcases hq q with e | e
      · rw [e]
        exact hy.mono hr hl
      · simp only [Rep] at hy ⊢
        obtain ⟨p, hp, hw, hge, ad, cap, hv, hcap, hsome, hcur⟩ := hy
        have hg := hlt q p hp h3 h1
        exact ⟨_, e p hp hg, hw, Nat.le_refl _, ad, cap, hv, hcap, hsome, fun _ => hcur hg⟩

end
end Go.Eng

/-
  The abstract machine, part 16c: a store into an object's variable.
-/
namespace Go.Eng

section
variable {c : Ctx} {I : Nat → Prop} {L : Ref → Option Pl} {s : St} {a : Act} {w : World} {call : CallF}

theorem Sim.objPut (h : Sim c I L s a w) {s0 : St} {k i : Nat} {tb : Blk} {cs : List Cell} {l : List (Val (rowsTy cs))} {st : List (Nat × Nat)} {gs : List Nat} (htb : s.heap[k]? = some (some tb)) (htct : tb.ct = .tab cs l st gs) (hmk : isMapK cs = false) (hlt : i < l.length) {pb : Pl} (hpb : L (.o k i 0) = some pb)
    {x' : Val (rowsTy cs)} {us : List (Nat × Src)} {zs : List Value} (hput : RowPut (c.rc I L w) L s0 k i (fun q => decide ((q, i) ∈ st)) gs cs 1 (l.getD i (dfl (rowsTy cs))) x' us zs)
    (hrd : ∀ q src r, (q, src) ∈ us → src.ref k i q = some r → s.rd r = s0.rd r) (hnd : nodupN (srcIds us) = true) (hgl : ∀ q, q ∈ us.map (·.1) → q < gs.length)
    {st' : List (Nat × Nat)} (hb1 : ∀ p, p ∈ st → p.1 ∈ us.map (·.1) → p.2 = i) (hb2 : ∀ p, p ∈ st' ↔ p ∈ st ∧ p.1 ∉ us.map (·.1))
    {w' : World} {T : TypeId} (hcell : w'.heap[pb.b]? = some (.cells zs.toArray T (0, 0))) (hs : w'.heap.size = w.heap.size) (hio : IO w w') (hw : ∀ b, b ≠ pb.b → w'.heap[b]? = w.heap[b]?) :
    ∃ L', Sim c I L' ⟨s.env, putAll s.heap (goneA us ++ [(.l k, { tb with ct := .tab cs (l.set i x') st' (turnG (us.map (·.1)) gs) })])⟩ a w' := by
  obtain ⟨qs, hqs⟩ : ∃ qs, qs = us.map (·.1) := ⟨_, rfl⟩
  obtain ⟨gs', hgs'⟩ : ∃ gs', gs' = turnG qs gs := ⟨_, rfl⟩
  have hqnd : qs.Nodup := by rw [hqs]; exact hput.nodup
  rw [← hqs] at hgl hb1 hb2 ⊢
  rw [← hgs']
  have hG : ∀ q, gs'.getD q 0 = if q ∈ qs then gs.getD q 0 + 2 else gs.getD q 0 := fun q => by rw [hgs']; exact turnG_get hqnd hgl
  have hge : ∀ q, q ∈ qs → 1 ≤ q := fun q hq => by
    rw [hqs] at hq
    obtain ⟨p, hp, rfl⟩ := List.mem_map.1 hq
    exact hput.ge p hp
  have hmem : ∀ q, q ∈ qs → ∃ src, (q, src) ∈ us := fun q hq => by
    rw [hqs] at hq
    obtain ⟨p, hp, rfl⟩ := List.mem_map.1 hq
    exact ⟨p.2, hp⟩
  have hmem' : ∀ q src, (q, src) ∈ us → q ∈ qs := fun q src hm => by
    rw [hqs]
    exact List.mem_map.2 ⟨_, hm, rfl⟩
  -- the new places
  obtain ⟨np, hnp⟩ : ∃ np : Nat → Pl, ∀ q src (t : Ty) (l' : List (Val t)), (q, src) ∈ us → slO q cs 1 x' = some ⟨t, l'⟩ → np q = newPl L k i q t (gs'.getD q 0) src := by
    have this : ∀ q, ∃ p : Pl, ∀ src (t : Ty) (l' : List (Val t)), (q, src) ∈ us → slO q cs 1 x' = some ⟨t, l'⟩ → p = newPl L k i q t (gs'.getD q 0) src := by
      intro q
      by_cases hq : ∃ (src : Src) (t : Ty) (l' : List (Val t)), (q, src) ∈ us ∧ slO q cs 1 x' = some ⟨t, l'⟩
      · obtain ⟨src, t, l', hm, hsl⟩ := hq
        refine ⟨newPl L k i q t (gs'.getD q 0) src, fun src2 t2 l2 hm2 hsl2 => ?_⟩
        have e1 : src = src2 := nodup_fst (by rw [← hqs]; exact hqnd) hm hm2
        rw [hsl] at hsl2
        injection hsl2 with hsl2
        injection hsl2 with e2 _
        rw [e1, e2]
      · exact ⟨⟨0, 0, 0, 0, 0, true⟩, fun src t l' hm hsl => absurd ⟨src, t, l', hm, hsl⟩ hq⟩
    exact ⟨fun q => (this q).choose, fun q => (this q).choose_spec⟩
  -- what is known of each slice that went over
  have hU : ∀ q src, (q, src) ∈ us → ∃ (t : Ty) (l0 l' : List (Val t)) (v : Value), slO q cs 1 (l.getD i (dfl (rowsTy cs))) = some ⟨t, l0⟩ ∧ slO q cs 1 x' = some ⟨t, l'⟩ ∧ Taken L s0 k i q t l' src v ∧ np q = newPl L k i q t (gs'.getD q 0) src := by
    intro q src hm
    obtain ⟨t, l0, l', v, g1, g2, g3⟩ := hput.mem q src hm
    exact ⟨t, l0, l', v, g1, g2, g3, hnp q src t l' hm g2⟩
  have hOK : ∀ q src, (q, src) ∈ us → ∀ (t : Ty) (l' : List (Val t)) (v : Value), Taken L s0 k i q t l' src v → _ := fun q src hm t l' v ht => newPl_ok (G := gs'.getD q 0) h ht (fun r hr => hrd q src r hm hr)
  -- the blocks that go over
  have hloc : ∀ q id i0 t g, (q, Src.loc id i0 t g) ∈ us → ∃ p b l0, L (.l id) = some p ∧ s.heap[id]? = some (some b) ∧ b.ct = .sl t l0 ∧ b.gen = p.gen ∧ g = b.gen ∧ p.w = t.size := by
    intro q id i0 t g hm
    obtain ⟨t1, l0, l', v, _, _, ht, _⟩ := hU q _ hm
    obtain ⟨ad, cap, _, _, _, ht⟩ := ht
    simp only [Src.ref] at ht
    obtain ⟨p, b, l1, hp, hb, hz, hbg, hct, hsrc, _⟩ := ht
    obtain ⟨e1, e2⟩ := hsrc id i0 t g rfl
    subst e1
    have hb' : s.rd (.l id) = some b := by rw [hrd q _ (.l id) hm rfl]; exact hb
    obtain ⟨⟨_, hk⟩, _⟩ := h.get hp hb'
    rw [hct] at hk
    refine ⟨p, b, l1, hp, rdv_l.1 (show rdv s.heap (.l id) = some b from hb'), hct, hbg, e2, ?_⟩
    rcases hk with ⟨_, _, h1⟩ | ⟨_, h1, _⟩
    · exact h1
    · exact h1
  have hlocE : ∀ id, id ∈ srcIds us → ∃ q i0 t g, (q, Src.loc id i0 t g) ∈ us := fun id hid => srcIds_mem hid
  have hknot : k ∉ srcIds us := by
    intro hk
    obtain ⟨q, i0, t, g, hm⟩ := hlocE k hk
    obtain ⟨p, b, l0, _, hb, hct, _⟩ := hloc q k i0 t g hm
    rw [htb] at hb
    injection hb with hb
    injection hb with hb
    subst hb
    rw [htct] at hct
    cases hct
  obtain ⟨g1, g2, g3, g4⟩ := goneA_sound (u := us) (h := s.heap) hnd (fun id hid => by
    obtain ⟨q, i0, t, g, hm⟩ := hlocE id hid
    obtain ⟨p, b, l0, _, hb, _⟩ := hloc q id i0 t g hm
    exact (List.getElem?_eq_some_iff.1 hb).1) (fun id b hid hb => by
    obtain ⟨q, i0, t, g, hm⟩ := hlocE id hid
    obtain ⟨p, b2, l0, _, hb2, hct, _⟩ := hloc q id i0 t g hm
    rw [hb2] at hb
    injection hb with hb
    injection hb with hb
    subst hb
    simp [Blk.isTab, hct])
  have hkl : k < s.heap.length := (List.getElem?_eq_some_iff.1 htb).1
  obtain ⟨hp', hhp'⟩ : ∃ hp', hp' = putAll s.heap (goneA us ++ [(.l k, { tb with ct := .tab cs (l.set i x') st' gs' })]) := ⟨_, rfl⟩
  rw [← hhp']
  have hset : hp' = (putAll s.heap (goneA us)).set k (some { tb with ct := .tab cs (l.set i x') st' gs' }) := by
    rw [hhp', putAll_append]
    simp only [putAll, putH]
  have r2 : hp'[k]? = some (some { tb with ct := .tab cs (l.set i x') st' gs' }) := by rw [hset, List.getElem?_set_self (by rw [g1]; exact hkl)]
  have rgone : ∀ q id i0 t g, (q, Src.loc id i0 t g) ∈ us → rdv hp' (.l id) = some { ct := .sl t [], gen := g + 1, frozen := false } := by
    intro q id i0 t g hm
    have hne : k ≠ id := fun e => hknot (by rw [e]; exact mem_srcIds hm)
    rw [rdv_l, hset, List.getElem?_set_ne hne]
    exact rdv_l.1 (g4 q id i0 t g hm)
  have rl : ∀ id, id ≠ k → id ∉ srcIds us → rdv hp' (.l id) = rdv s.heap (.l id) := by
    intro id hne hn
    simp only [rdv, hset, List.getElem?_set_ne (Ne.symm hne)]
    rw [g3 id hn]
  have ro : ∀ k' i' q, k' ≠ k → rdv hp' (.o k' i' q) = rdv s.heap (.o k' i' q) := by
    intro k' i' q hne
    have : rdv hp' (.o k' i' q) = rdv (putAll s.heap (goneA us)) (.o k' i' q) := by
      simp only [rdv, hset, List.getElem?_set_ne (Ne.symm hne)]
    rw [this, g2 _ (fun id _ e => by cases e)]
  have rk : ∀ i' q, rdv hp' (.o k i' q) = if i' < l.length then viewV k i' cs ((l.set i x').getD i' (dfl (rowsTy cs))) st' gs' q else none := by
    intro i' q
    simp only [rdv, r2, List.length_set]
  have rk0 : ∀ i' q, rdv s.heap (.o k i' q) = if i' < l.length then viewV k i' cs (l.getD i' (dfl (rowsTy cs))) st gs q else none := by
    intro i' q
    simp only [rdv, htb, htct]
  -- the places
  let L' : Ref → Option Pl := fun r => match r with
    | .l id => if id ∈ srcIds us then (L (.l id)).map fun p => { p with gen := p.gen + 1, virt := true } else L (.l id)
    | .o k' i' q => if k' = k ∧ q ∈ qs then (if i' = i then some (np q) else (L (.o k' i' q)).map fun p => { p with gen := gs'.getD q 0 }) else L (.o k' i' q)
  have L1 : ∀ id, id ∉ srcIds us → L' (.l id) = L (.l id) := fun id hn => if_neg hn
  have L2 : ∀ id, id ∈ srcIds us → L' (.l id) = (L (.l id)).map fun p => { p with gen := p.gen + 1, virt := true } := fun id hn => if_pos hn
  have L3 : ∀ q, q ∈ qs → L' (.o k i q) = some (np q) := fun q hq => by show (if k = k ∧ q ∈ qs then _ else _) = _; rw [if_pos ⟨rfl, hq⟩, if_pos rfl]
  have L4 : ∀ i' q, q ∈ qs → i' ≠ i → L' (.o k i' q) = (L (.o k i' q)).map fun p => { p with gen := gs'.getD q 0 } := fun i' q hq hne => by
    show (if k = k ∧ q ∈ qs then _ else _) = _; rw [if_pos ⟨rfl, hq⟩, if_neg hne]
  have L5 : ∀ k' i' q, ¬ (k' = k ∧ q ∈ qs) → L' (.o k' i' q) = L (.o k' i' q) := fun k' i' q hn => if_neg hn
  have hz0 : 0 ∉ qs := fun h0 => by have := hge 0 h0; omega
  -- an old slice's place
  have hold : ∀ i' q p, q ∈ qs → L (.o k i' q) = some p → ∃ (t : Ty) (y : List (Val t)), i' < l.length ∧ slO q cs 1 (l.getD i' (dfl (rowsTy cs))) = some ⟨t, y⟩ ∧ p.w = t.size ∧ p.gen = (if (q, i') ∈ st then gs.getD q 0 + 1 else gs.getD q 0) := by
    intro i' q p hq hp
    obtain ⟨b, hb⟩ := h.dom _ p hp
    obtain ⟨p2, hp2, hk, _⟩ := h.blk _ b hb
    rw [hp] at hp2
    injection hp2 with hp2
    subst hp2
    rw [rk0] at hb
    split at hb
    · rename_i hil
      have h1 := hge q hq
      obtain ⟨q, rfl⟩ := Nat.exists_eq_add_of_le' h1
      simp only [viewV] at hb
      split at hb
      · rename_i t y hsl
        simp only [Option.some.injEq] at hb
        refine ⟨t, y, hil, hsl, ?_, ?_⟩
        · split at hb
          · subst hb
            rcases hk.2 with ⟨_, _, h1⟩ | ⟨_, h1, _⟩
            · exact h1
            · exact h1
          · subst hb
            rcases hk.2 with ⟨_, _, h1⟩ | ⟨_, h1, _⟩
            · exact h1
            · exact h1
        · have hg := hk.1
          split at hb
          · rename_i hm
            subst hb
            rw [if_pos hm]
            exact hg
          · rename_i hm
            subst hb
            rw [if_neg hm]
            exact hg
      · cases hb
    · cases hb
  -- types of a slot do not hang on the object
  have hsty : ∀ q (x y : Val (rowsTy cs)) (t t' : Ty) (l1 : List (Val t)) (l2 : List (Val t')), slO q cs 1 x = some ⟨t, l1⟩ → slO q cs 1 y = some ⟨t', l2⟩ → t = t' := by
    have key : ∀ (cs : List Cell) (n q : Nat) (x y : Val (rowsTy cs)) (t t' : Ty) (l1 : List (Val t)) (l2 : List (Val t')), slO q cs n x = some ⟨t, l1⟩ → slO q cs n y = some ⟨t', l2⟩ → t = t' := by
      intro cs
      induction cs with
      | nil => intro n q x y t t' l1 l2 h; cases h
      | cons cell r ih =>
        intro n q x y t t' l1 l2 h1 h2
        cases cell with
        | d u => simp only [slO] at h1 h2; exact ih n q x.2 y.2 t t' l1 l2 h1 h2
        | sl u =>
          simp only [slO] at h1 h2
          cases hb : Nat.beq n q with
          | true =>
            rw [hb] at h1 h2
            simp only [Option.some.injEq, Sigma.mk.injEq] at h1 h2
            rw [← h1.1, ← h2.1]
          | false =>
            rw [hb] at h1 h2
            exact ih (n + 1) q x.2 y.2 t t' l1 l2 h1 h2
    exact fun q x y => key cs 1 q x y
  have hl : LLe L L' := by
    intro r p hp
    cases r with
    | l id =>
      by_cases hid : id ∈ srcIds us
      · exact ⟨{ p with gen := p.gen + 1, virt := true }, by rw [L2 id hid, hp]; rfl, rfl, .inr ⟨Nat.lt_succ_self _, fun hb => hb⟩⟩
      · exact ⟨p, by rw [L1 id hid]; exact hp, rfl, .inl rfl⟩
    | o k' i' q =>
      by_cases hkq : k' = k ∧ q ∈ qs
      · obtain ⟨rfl, hq⟩ := hkq
        have hnb : ¬ (Ref.o k' i' q).isBox := by
          have := hge q hq
          obtain ⟨q, rfl⟩ := Nat.exists_eq_add_of_le' this
          exact fun hb => hb
        obtain ⟨t, y, hil, hsl, hpw, hpg⟩ := hold i' q p hq hp
        have hGq := hG q
        rw [if_pos hq] at hGq
        by_cases hii : i' = i
        · subst hii
          obtain ⟨src, hm⟩ := hmem q hq
          obtain ⟨t2, l0, l', v, hs0, hs1, ht, hnpq⟩ := hU q src hm
          obtain ⟨k1, k2, _⟩ := hOK q src hm t2 l' v ht
          refine ⟨np q, L3 q hq, ?_, .inr ⟨?_, hnb⟩⟩
          · rw [hnpq, k1, hpw, hsty q _ _ _ _ _ _ hs0 hsl]
          · rw [hnpq, k2, hGq, hpg]
            split <;> omega
        · refine ⟨{ p with gen := gs'.getD q 0 }, by rw [L4 i' q hq hii, hp]; rfl, rfl, .inr ⟨?_, hnb⟩⟩
          show p.gen < gs'.getD q 0
          rw [hGq, hpg]
          split <;> omega
      · exact ⟨p, by rw [L5 k' i' q hkq]; exact hp, rfl, .inl rfl⟩
  -- where the new places come from
  have hO : ∀ r p, L' r = some p → p.virt = false → ∃ r0 p0, L r0 = some p0 ∧ p0.virt = false ∧ p.b = p0.b ∧
      ((r = r0 ∧ ∀ id, r0 = .l id → id ∉ srcIds us) ∨ ∃ q id i0 t g, r = .o k i q ∧ (q, Src.loc id i0 t g) ∈ us ∧ r0 = .l id) := by
    intro r p hp hv
    cases r with
    | l id =>
      by_cases hid : id ∈ srcIds us
      · rw [L2 id hid] at hp
        obtain ⟨p0, _, rfl⟩ := Option.map_eq_some_iff.1 hp
        cases hv
      · rw [L1 id hid] at hp
        exact ⟨_, p, hp, hv, rfl, .inl ⟨rfl, fun id' e => by injection e with e; rw [← e]; exact hid⟩⟩
    | o k' i' q =>
      by_cases hkq : k' = k ∧ q ∈ qs
      · obtain ⟨rfl, hq⟩ := hkq
        by_cases hii : i' = i
        · subst hii
          rw [L3 q hq] at hp
          injection hp with hp
          subst hp
          obtain ⟨src, hm⟩ := hmem q hq
          obtain ⟨t2, l0, l', v, hs0, hs1, ht, hnpq⟩ := hU q src hm
          obtain ⟨_, _, _, _, k5⟩ := hOK q src hm t2 l' v ht
          rw [hnpq] at hv ⊢
          obtain ⟨r, p0, hr, hp0, hpv, hpb0, _⟩ := k5 hv
          cases src with
          | nil => cases hr
          | own i0 =>
            simp only [Src.ref, Option.some.injEq] at hr
            subst hr
            exact ⟨_, p0, hp0, hpv, hpb0, .inl ⟨rfl, fun id e => by cases e⟩⟩
          | loc id i0 t g =>
            simp only [Src.ref, Option.some.injEq] at hr
            subst hr
            exact ⟨_, p0, hp0, hpv, hpb0, .inr ⟨q, id, i0, t, g, rfl, hm, rfl⟩⟩
        · rw [L4 i' q hq hii] at hp
          obtain ⟨p0, hp0, rfl⟩ := Option.map_eq_some_iff.1 hp
          exact ⟨_, p0, hp0, hv, rfl, .inl ⟨rfl, fun id e => by cases e⟩⟩
      · rw [L5 k' i' q hkq] at hp
        exact ⟨_, p, hp, hv, rfl, .inl ⟨rfl, fun id e => by cases e⟩⟩
  have hsame : ∀ r p, r ≠ .o k i 0 → L r = some p → p.virt = false → w'.heap[p.b]? = w.heap[p.b]? := by
    intro r p hne hp hv
    refine hw _ fun e => ?_
    obtain ⟨pb', hpb', hbb, _, hv', _⟩ := h.objL (k := k) (i := i) (b := pb.b) (by simp [Ctx.rc, rcW, hOf, hpb])
    rw [hpb] at hpb'
    injection hpb' with hpb'
    subst hpb'
    exact hne (h.inj r _ p pb hp hpb hv hv' e)
  have hpbv : pb.virt = false := by
    obtain ⟨pb', hpb', hbb, _, hv', _⟩ := h.objL (k := k) (i := i) (b := pb.b) (by simp [Ctx.rc, rcW, hOf, hpb])
    rw [hpb] at hpb'
    injection hpb' with hpb'
    subst hpb'
    exact hv'
  have hmono : RLe (c.rc I L w) (c.rc I L' w') → ∀ r p b, r ≠ .o k i 0 → L r = some p → BlkOK (c.rc I L w) L w p b → BlkOK (c.rc I L' w') L' w' p b := by
    intro hr r p b hne hp hk
    exact hk.mono hr hl (fun hv => hsame r p hne hp hv) (fun hv o => cell?_heap _ _ (hsame r p hne hp hv))
  refine ⟨L', h.turn hl (by rw [hs]; exact Nat.le_refl _) hio (fun b _ hor => ?_) (fun hr r b hb => ?_) (fun r p hp => ?_) (fun r p hp hv => ?_) (fun r r' p p' hp hp' hv hv' hbb => ?_)⟩
  · refine hw b fun e => ?_
    rcases hor with hI | hne
    · obtain ⟨bb, hbb⟩ := h.dom _ pb hpb
      obtain ⟨p2, hp2, hk2, hf2⟩ := h.blk _ bb hbb
      rw [hpb] at hp2
      injection hp2 with hp2
      subst hp2
      have : bb.frozen = false := by
        rw [rk0, if_pos hlt] at hbb
        simp only [viewV, Option.some.injEq] at hbb
        subst hbb
        rfl
      rw [e] at hI
      exact hf2 this hpbv hI
    · exact hne _ pb hpb hpbv e.symm
  · -- blocks
    cases r with
    | l id =>
      by_cases hk : id = k
      · subst hk
        rw [rdv_l.2 r2] at hb
        injection hb with hb
        subst hb
        obtain ⟨p1, hp1, hk1, hf1⟩ := h.blk (.l id) tb (rdv_l.2 htb)
        refine ⟨p1, by rw [L1 id hknot]; exact hp1, ?_, hf1⟩
        unfold BlkOK at hk1 ⊢
        rw [htct] at hk1
        exact hk1
      · by_cases hid : id ∈ srcIds us
        · obtain ⟨q, i0, t, g, hm⟩ := hlocE id hid
          obtain ⟨p, b0, l0, hp, _, _, hbg, hg, hpw⟩ := hloc q id i0 t g hm
          rw [rgone q id i0 t g hm] at hb
          injection hb with hb
          subst hb
          refine ⟨{ p with gen := p.gen + 1, virt := true }, by rw [L2 id hid, hp]; rfl, ⟨?_, .inl ⟨rfl, rfl, hpw⟩⟩, fun _ hv => by cases hv⟩
          show p.gen + 1 = g + 1
          rw [hg, hbg]
        · rw [rl id hk hid] at hb
          obtain ⟨p1, hp1, hk1, hf1⟩ := h.blk _ b hb
          exact ⟨p1, by rw [L1 id hid]; exact hp1, hmono hr _ p1 b (by simp) hp1 hk1, hf1⟩
    | o k' i' q =>
      by_cases hkk : k' = k
      · subst hkk
        rw [rk] at hb
        split at hb
        · rename_i hil
          by_cases hii : i' = i
          · subst hii
            rw [getD_sets hlt] at hb
            cases q with
            | zero =>
              simp only [viewV, objCt_box hmk, Option.some.injEq] at hb
              subst hb
              have hbox : rdv s.heap (.o k' i' 0) = some { ct := .box (rowO k' i' (fun q => decide ((q, i') ∈ st)) gs cs 1 (l.getD i' (dfl (rowsTy cs)))), gen := 0, frozen := false } := by
                rw [rk0, if_pos hlt]; simp only [viewV, objCt_box hmk]
              obtain ⟨p1, hp1, hk1, hf1⟩ := h.blk _ _ hbox
              rw [hpb] at hp1
              injection hp1 with hp1
              subst hp1
              obtain ⟨e1, e2, e3, _⟩ := hk1
              refine ⟨pb, by rw [L5 _ _ _ (fun hx => hz0 hx.2)]; exact hpb, ⟨e1, e2, e3, _, T, hcell, ?_⟩, hf1⟩
              refine hput.row hr hl (U := us) (CS := cs) (X := x') (fun q hq => ⟨?_, ?_⟩) (fun q src t l' v hm hsl ht => ⟨?_, ?_⟩) (fun p hp => hp) (fun p hp _ => hp) (fun _ _ => rfl)
              · have hqn : q ∉ qs := fun hm => by
                  obtain ⟨src, hm⟩ := hmem q hm
                  exact hq _ hm rfl
                have : (q, i') ∈ st' ↔ (q, i') ∈ st := by
                  rw [hb2]
                  exact ⟨fun h => h.1, fun h => ⟨h, hqn⟩⟩
                simp only [this]
              · have hqn : q ∉ qs := fun hm => by
                  obtain ⟨src, hm⟩ := hmem q hm
                  exact hq _ hm rfl
                rw [hG q, if_neg hqn]
              · have : ¬ (q, i') ∈ st' := fun hx => ((hb2 _).1 hx).2 (hmem' q src hm)
                simp only [this, decide_false]
              · obtain ⟨_, _, _, k4, _⟩ := hOK q src hm t l' v ht
                refine k4 _ _ ?_
                rw [L3 q (hmem' q src hm), hnp q src t l' hm hsl]
            | succ q =>
              by_cases hq : q + 1 ∈ qs
              · obtain ⟨src, hm⟩ := hmem _ hq
                obtain ⟨t, l0, l', v, hs0, hs1, ht, hnpq⟩ := hU _ src hm
                have hn' : ¬ (q + 1, i') ∈ st' := fun hx => ((hb2 _).1 hx).2 hq
                simp only [viewV, hs1, if_neg hn', Option.some.injEq] at hb
                subst hb
                obtain ⟨k1, k2, k3, k4, k5⟩ := hOK _ src hm t l' v ht
                refine ⟨np (q + 1), L3 _ hq, ?_, fun _ hv => ?_⟩
                · rw [hnpq]
                  refine k3.mono hr hl (fun hv => ?_) (fun hv o => ?_)
                  · obtain ⟨r, p0, hr0, hp0, hpv, hpb0, _⟩ := k5 hv
                    rw [hpb0]
                    refine hsame r p0 (fun e => ?_) hp0 hpv
                    subst e
                    cases src <;> simp [Src.ref] at hr0
                  · obtain ⟨r, p0, hr0, hp0, hpv, hpb0, _⟩ := k5 hv
                    refine cell?_heap _ _ ?_
                    rw [hpb0]
                    refine hsame r p0 (fun e => ?_) hp0 hpv
                    subst e
                    cases src <;> simp [Src.ref] at hr0
                · rw [hnpq] at hv ⊢
                  obtain ⟨r, p0, hr0, hp0, hpv, hpb0, hnI⟩ := k5 hv
                  rw [hpb0]
                  exact hnI
              · have hst : (q + 1, i') ∈ st' ↔ (q + 1, i') ∈ st := by
                  rw [hb2]
                  exact ⟨fun h => h.1, fun h => ⟨h, hq⟩⟩
                have hsl : slO (q + 1) cs 1 x' = slO (q + 1) cs 1 (l.getD i' (dfl (rowsTy cs))) := hput.other fun p hp e => hq (by rw [← e]; exact hmem' p.1 p.2 hp)
                have hb0 : rdv s.heap (.o k' i' (q + 1)) = some b := by
                  rw [rk0, if_pos hlt]
                  simp only [viewV] at hb ⊢
                  have hGq := hG (q + 1)
                  rw [if_neg hq] at hGq
                  rw [hsl, hGq] at hb
                  simp only [hst] at hb
                  exact hb
                obtain ⟨p1, hp1, hk1, hf1⟩ := h.blk _ b hb0
                exact ⟨p1, by rw [L5 _ _ _ (fun hx => hq hx.2)]; exact hp1, hmono hr _ p1 b (by simp) hp1 hk1, hf1⟩
          · rw [getD_setn (Ne.symm hii)] at hb
            have hstn : ∀ q, q ∈ qs → ¬ (q, i') ∈ st := fun q hq hx => hii (hb1 _ hx hq)
            have hst' : ∀ q, (q, i') ∈ st' ↔ (q, i') ∈ st := fun q => by
              rw [hb2]
              exact ⟨fun h => h.1, fun h => ⟨h, fun hq => hstn q hq h⟩⟩
            cases q with
            | zero =>
              simp only [viewV, objCt_box hmk, Option.some.injEq] at hb
              subst hb
              have hbox : rdv s.heap (.o k' i' 0) = some { ct := .box (rowO k' i' (fun q => decide ((q, i') ∈ st)) gs cs 1 (l.getD i' (dfl (rowsTy cs)))), gen := 0, frozen := false } := by
                rw [rk0, if_pos hil]; simp only [viewV, objCt_box hmk]
              obtain ⟨p1, hp1, hk1, hf1⟩ := h.blk _ _ hbox
              obtain ⟨e1, e2, e3, cc, TT, e4, e5⟩ := hk1
              have hne : Ref.o k' i' 0 ≠ Ref.o k' i 0 := fun e => by injection e with _ e _; exact hii e
              refine ⟨p1, by rw [L5 _ _ _ (fun hx => hz0 hx.2)]; exact hp1, ⟨e1, e2, e3, cc, TT, by rw [hsame _ p1 hne hp1 e2]; exact e4, ?_⟩, hf1⟩
              refine rowO_regen hr hl (fun q hq => by simp only [decide_eq_true_eq] at hq ⊢; exact (hst' q).2 hq) (fun q => ?_) (fun q p hp hq h1 => ?_) (Nat.le_refl 1) e5
              · by_cases hq : q ∈ qs
                · exact .inr fun p hp _ => by rw [L4 i' q hq hii, hp]; rfl
                · exact .inl (by rw [hG q, if_neg hq])
              · obtain ⟨bb, hbb⟩ := h.dom _ p hp
                obtain ⟨p2, hp2, hk2, _⟩ := h.blk _ bb hbb
                rw [hp] at hp2
                injection hp2 with hp2
                subst hp2
                rw [rk0, if_pos hil] at hbb
                obtain ⟨q, rfl⟩ := Nat.exists_eq_add_of_le' h1
                simp only [viewV] at hbb
                have hqn : ¬ (q + 1, i') ∈ st := by simpa using hq
                split at hbb
                · rw [if_neg hqn] at hbb
                  injection hbb with hbb
                  subst hbb
                  exact hk2.1
                · cases hbb
            | succ q =>
              by_cases hq : q + 1 ∈ qs
              · have hGq := hG (q + 1)
                have hn0 : ¬ (q + 1, i') ∈ st := hstn _ hq
                have hn1 : ¬ (q + 1, i') ∈ st' := fun hx => hn0 ((hst' _).1 hx)
                simp only [viewV] at hb
                cases hsl : slO (q + 1) cs 1 (l.getD i' (dfl (rowsTy cs))) with
                | none => rw [hsl] at hb; cases hb
                | some ty =>
                  obtain ⟨t, y⟩ := ty
                  rw [hsl] at hb
                  simp only [if_neg hn1, Option.some.injEq] at hb
                  subst hb
                  have hb0 : rdv s.heap (.o k' i' (q + 1)) = some { ct := .sl t y, gen := gs.getD (q + 1) 0, frozen := false } := by
                    rw [rk0, if_pos hil]
                    simp only [viewV, hsl, if_neg hn0]
                  obtain ⟨p1, hp1, hk1, hf1⟩ := h.blk _ _ hb0
                  refine ⟨{ p1 with gen := gs'.getD (q + 1) 0 }, by rw [L4 _ _ hq hii, hp1]; rfl, ?_, fun hz hv => hf1 hz hv⟩
                  have := hmono hr _ p1 _ (by simp) hp1 hk1
                  exact ⟨rfl, this.2⟩
              · have hb0 : rdv s.heap (.o k' i' (q + 1)) = some b := by
                  rw [rk0, if_pos hil]
                  simp only [viewV] at hb ⊢
                  have hGq := hG (q + 1)
                  rw [if_neg hq] at hGq
                  rw [hGq] at hb
                  simp only [hst'] at hb
                  exact hb
                obtain ⟨p1, hp1, hk1, hf1⟩ := h.blk _ b hb0
                exact ⟨p1, by rw [L5 _ _ _ (fun hx => hq hx.2)]; exact hp1, hmono hr _ p1 b (by simp) hp1 hk1, hf1⟩
        · cases hb
      · rw [ro k' i' q hkk] at hb
        obtain ⟨p1, hp1, hk1, hf1⟩ := h.blk _ b hb
        exact ⟨p1, by rw [L5 _ _ _ (fun hx => hkk hx.1)]; exact hp1, hmono hr _ p1 b (fun e => by injection e with e; exact hkk e) hp1 hk1, hf1⟩
  · -- places
    cases r with
    | l id =>
      by_cases hk : id = k
      · subst hk; exact ⟨_, rdv_l.2 r2⟩
      · by_cases hid : id ∈ srcIds us
        · obtain ⟨q, i0, t, g, hm⟩ := hlocE id hid
          exact ⟨_, rgone q id i0 t g hm⟩
        · rw [L1 id hid] at hp
          rw [rl id hk hid]
          exact h.dom _ p hp
    | o k' i' q =>
      by_cases hkk : k' = k
      · subst hkk
        rw [rk]
        by_cases hq : q ∈ qs
        · have hq1 := hge q hq
          obtain ⟨q, rfl⟩ := Nat.exists_eq_add_of_le' hq1
          by_cases hii : i' = i
          · subst hii
            rw [if_pos hlt, getD_sets hlt]
            obtain ⟨src, hm⟩ := hmem _ hq
            obtain ⟨t, l0, l', v, hs0, hs1, ht, hnpq⟩ := hU _ src hm
            simp only [viewV, hs1]
            exact ⟨_, rfl⟩
          · rw [L4 i' _ hq hii] at hp
            obtain ⟨p0, hp0, _⟩ := Option.map_eq_some_iff.1 hp
            obtain ⟨t, y, hil, hsl, _⟩ := hold i' _ p0 hq hp0
            rw [if_pos hil, getD_setn (Ne.symm hii)]
            simp only [viewV, hsl]
            exact ⟨_, rfl⟩
        · rw [L5 _ _ _ (fun hx => hq hx.2)] at hp
          obtain ⟨b, hb⟩ := h.dom _ p hp
          rw [rk0] at hb
          split at hb
          · rename_i hil
            rw [if_pos hil]
            cases q with
            | zero => exact ⟨_, rfl⟩
            | succ q =>
              by_cases hii : i' = i
              · subst hii
                rw [getD_sets hlt]
                have hsl : slO (q + 1) cs 1 x' = slO (q + 1) cs 1 (l.getD i' (dfl (rowsTy cs))) := hput.other fun p hp e => hq (by rw [← e]; exact hmem' p.1 p.2 hp)
                simp only [viewV] at hb ⊢
                rw [hsl]
                split at hb
                · exact ⟨_, rfl⟩
                · cases hb
              · rw [getD_setn (Ne.symm hii)]
                simp only [viewV] at hb ⊢
                split at hb
                · exact ⟨_, rfl⟩
                · cases hb
          · cases hb
      · rw [ro k' i' q hkk]
        rw [L5 _ _ _ (fun hx => hkk hx.1)] at hp
        exact h.dom _ p hp
  · obtain ⟨r0, p0, hp0, hv0, hb0, _⟩ := hO r p hp hv
    rw [hb0]
    exact ⟨by rw [hs]; exact (h.own _ p0 hp0 hv0).2, .inr ⟨r0, p0, hp0, hv0, rfl⟩⟩
  · obtain ⟨r0, p0, hp0, hv0, hb0, h0⟩ := hO r p hp hv
    obtain ⟨r1, p1, hp1, hv1, hb1', h1⟩ := hO r' p' hp' hv'
    have e := h.inj r0 r1 p0 p1 hp0 hp1 hv0 hv1 (by rw [← hb0, ← hb1', hbb])
    subst e
    rcases h0 with ⟨e0, n0⟩ | ⟨q, id, i0, t, g, e0, m0, f0⟩ <;> rcases h1 with ⟨e1, n1⟩ | ⟨q', id', i0', t', g', e1, m1, f1⟩
    · rw [e0, e1]
    · exact absurd (mem_srcIds m1) (n0 id' f1)
    · exact absurd (mem_srcIds m0) (n1 id f0)
    · rw [f0] at f1
      injection f1 with f1
      subst f1
      rw [e0, e1, srcIds_inj hnd m0 m1]

end
end Go.Eng

/-
  The abstract machine, part 16d: the operation that stores into an object's variable.
-/
namespace Go.Eng

section
variable {c : Ctx} {I : Nat → Prop} {L : Ref → Option Pl} {s : St} {a : Act} {w : World} {call : CallF}

theorem Sim.objBox (h : Sim c I L s a w) {k i : Nat} {tb : Blk} {cs : List Cell} {l : List (Val (rowsTy cs))} {st : List (Nat × Nat)} {gs : List Nat} (htb : s.heap[k]? = some (some tb)) (htct : tb.ct = .tab cs l st gs) (hmk : isMapK cs = false) {p : Pl} (hp : L (.o k i 0) = some p) :
    i < l.length ∧ p.o = 0 ∧ p.gen = 0 ∧ p.virt = false ∧ ¬ I p.b ∧ ∃ cc T, w.heap[p.b]? = some (.cells cc T (0, 0)) ∧ RepL (c.rc I L w) L (rowO k i (fun q => decide ((q, i) ∈ st)) gs cs 1 (l.getD i (dfl (rowsTy cs)))) cc.toList := by
  obtain ⟨b, hb⟩ := h.dom _ p hp
  obtain ⟨p2, hp2, hk, hf⟩ := h.blk _ b hb
  rw [hp] at hp2
  injection hp2 with hp2
  subst hp2
  simp only [rdv, htb, htct] at hb
  split at hb
  · rename_i hlt
    simp only [viewV, objCt_box hmk, Option.some.injEq] at hb
    subst hb
    obtain ⟨h1, h2, h3, cc, T, h4, h5⟩ := hk
    exact ⟨hlt, h3, h1, h2, hf rfl h2, cc, T, h4, h5⟩
  · cases hb

theorem op_storeObj (h : Sim c I L s a w) (hE : EnvOK c.P c.E) {t : TypeId} {x y : Operand} {o : Oper} (ho : o.op = .store t x y) {ti : TyI} (hty : c.E.ty t = some ti) {k io j g : Nat} (hav : aeval s.env x = .lptr (.o k io 0) 0 j g) {δ : Dl} {rs : List Nat}
    (e : (storeOA c.E ti k io j (aeval s.env y)).run call s.rd = some (δ, rs)) : OpOK c s a w o δ := by
  obtain ⟨d, ii, zz, hT⟩ := hE.ty _ ti hty
  have hx := h.eval x
  rw [hav] at hx
  simp only [Rep] at hx
  obtain ⟨p, hp, hge, q, hq, hcur⟩ := hx
  unfold storeOA at e
  obtain ⟨tb, l1, htb, e1, rfl⟩ := HM.run_rd e
  have htb' := rdv_l.1 (show rdv s.heap (.l k) = some tb from htb)
  split at e1
  rotate_left
  · cases e1
  rename_i cs l st gs htct
  split at e1
  rotate_left
  · cases e1
  rename_i new hcs
  split at e1
  rotate_left
  · cases e1
  rename_i hcond
  obtain ⟨hall, hsz, hmk⟩ := hcond
  obtain ⟨hlt, hpo, hpg, hpv, hnI, cc, T, hcc, hrow⟩ := h.objBox htb' htct hmk hp
  have hqq := hcur (by omega)
  simp only [hpo, Nat.zero_mul, Nat.zero_add, Nat.add_zero] at hqq
  obtain ⟨⟨x', f, u⟩, r1, r2, e2, e3, rfl⟩ := HM.run_bind e1
  obtain ⟨fz, r3, r4, e4, e5, rfl⟩ := HM.run_bind e3
  obtain ⟨st', r5, r6, e6, e7, rfl⟩ := HM.run_bind e5
  split at e7
  rotate_left
  · cases e7
  rename_i hc
  obtain ⟨hnd, hcf, hgl⟩ := hc
  obtain ⟨rfl, rfl⟩ := HM.run_ret e7
  have hcl := cells_sound hcs (h.eval y)
  have hvl := hcl.length
  obtain ⟨told, hbound, hput⟩ := storeO_sound h e2 hcl hrow
  have hput := hput (heldBy I L f) (fun b hb => .inl hb) (fun id hid p hp hv => .inr ⟨id, p, hid, hp, hv, rfl⟩)
  have hF := h.freezeAll e4 told
  obtain ⟨f1, f2, f3, f4, f5⟩ := told.freeze e4
  obtain ⟨b1, b2⟩ := backA_sound e6
  have hknf : Ref.l k ∉ f := fun hm => by
    have := told.notab hm htb'
    simp [Blk.isTab, htct] at this
  have hb0 : j + (a.eval y).cells.toList.length ≤ cc.size ∨ (a.eval y).cells.toList = [] := by
    by_cases hnil : new = []
    · right
      subst hnil
      simp only [RepL] at hcl
      exact hcl
    · left
      rw [if_neg hnil] at hbound
      simpa using hbound
  have hrun : ∃ w', (storeCells ⟨p.b, j, none⟩ (a.eval y).cells.toList 0).run c.P w = .ok () w' ∧ w'.heap.size = w.heap.size ∧ w'.heap[p.b]? = some (.cells (wrAt cc j (a.eval y).cells.toList) T (0, 0)) ∧ (∀ k, k ≠ p.b → w'.heap[k]? = w.heap[k]?) ∧ IO w w' := by
    rcases hb0 with hb0 | hb0
    · exact run_storeCells (P := c.P) (o := j) (a.eval y).cells.toList 0 w cc hcc (by omega) (hcl.mem_cell hall)
    · rw [hb0]
      exact ⟨w, rfl, rfl, hcc, fun _ _ => rfl, IO.refl w⟩
  obtain ⟨w', erun, hs, hnew, hoth, hio⟩ := hrun
  have hzs : wrAt cc j (a.eval y).cells.toList = (ovl cc.toList j (a.eval y).cells.toList).toArray := by
    apply Array.ext'
    rw [wrAt_ovl]
  rw [hzs] at hnew
  have hS := hF.objPut (s0 := s) (k := k) (i := io) (tb := tb) (show (putAll s.heap fz)[k]? = _ by rw [f5 k hknf]; exact htb') htct hmk hlt hp hput (fun q src r hm hr => ?_) hnd (fun q hq => ?_) b1 b2 hnew hs hio hoth
  · obtain ⟨L', hS⟩ := hS
    refine OpOK.skip (w' := w') ?_ (I' := heldBy I L f) (L' := L') ?_
    · simp only [execOp, ho]
      rw [hq, hqq]
      have hsz' : (a.eval y).cells.size = ti.size := by
        have : (a.eval y).cells.toList.length = ti.size := by rw [hvl, hsz]
        simpa using this
      simp [Instr.storeAt, Instr.sureAddr, storeVar, hT.run_size, hsz', erun]
    · rw [List.append_assoc, putAll_append]
      exact hS
  · show rdH (putAll s.heap fz) r = rdH s.heap r
    refine (f2 r fun hm2 => ?_).2
    cases src with
    | nil => cases hr
    | own i0 =>
      simp only [Src.ref, Option.some.injEq] at hr
      subst hr
      obtain ⟨_, _, e0, _⟩ := f3 _ hm2
      cases e0
    | loc id i0 t g =>
      simp only [Src.ref, Option.some.injEq] at hr
      subst hr
      simp only [List.all_eq_true] at hcf
      have := hcf id (mem_srcIds hm)
      simp [hm2] at this
  · simp only [List.all_eq_true] at hgl
    have := hgl q hq
    exact Nat.le_of_ble_eq_true this

end
end Go.Eng

/-
  The abstract machine, part 16e: an object more.
-/
namespace Go.Eng

theorem slO_own {want : Nat} : ∀ {cs : List Cell} {q : Nat} {x : Val (rowsTy cs)} {r : (t : Ty) × List (Val t)}, slO want cs q x = some r → want ∈ ownQs cs q
  | [], _, _, _, h => by cases h
  | .d t :: r, q, x, _, h => by simp only [slO] at h; simp only [ownQs]; exact slO_own h
  | .sl t :: r, q, x, _, h => by
    simp only [slO] at h
    simp only [ownQs, List.mem_cons]
    split at h
    · rename_i hb; exact .inl (Nat.eq_of_beq_eq_true hb).symm
    · exact .inr (slO_own h)

theorem rowO_congr {k i : Nat} {st st' : Nat → Bool} {gs : List Nat} : ∀ {cs : List Cell} {q : Nat} {x : Val (rowsTy cs)}, (∀ p, p ∈ ownQs cs q → st p = st' p) → rowO k i st gs cs q x = rowO k i st' gs cs q x
  | [], _, _, _ => rfl
  | .d t :: r, q, x, h => by
    simp only [ownQs] at h
    simp only [rowO]
    rw [rowO_congr h]
  | .sl t :: r, q, x, h => by
    simp only [ownQs, List.mem_cons, forall_eq_or_imp] at h
    simp only [rowO]
    rw [h.1, rowO_congr h.2]

theorem dfl_rep (R : RC) : ∀ (t : Ty), t.zb = true → ∃ cs, RepT R t (dfl t) cs
  | .int _, _ | .bool, _ | .str, _ | .flt, _ | .unit, _ | .nat, _ => ⟨_, rfl⟩
  | .err, _ => ⟨_, _, rfl, rfl⟩
  | .hd _, _ => ⟨_, rfl⟩
  | .mh _, _ => ⟨_, rfl⟩
  | .dn, _ => ⟨_, rfl⟩
  | .dy _ _ r, h => by
    simp only [Ty.zb, Bool.and_eq_true] at h
    obtain ⟨c, hc⟩ := dfl_rep R r h.1
    exact ⟨c, hc, List.length_eq_one_iff.1 ((RepT.length r hc).trans (Nat.eq_of_beq_eq_true h.2))⟩
  | .pair a b, h => by
    simp only [Ty.zb, Bool.and_eq_true] at h
    obtain ⟨c, hc⟩ := dfl_rep R a h.1
    obtain ⟨d, hd⟩ := dfl_rep R b h.2
    exact ⟨c ++ d, c, d, rfl, hc, hd⟩
  | .st a, h => by
    simp only [Ty.zb] at h
    exact dfl_rep R a h
  | .sl a, _ => ⟨[.slice none 0 0], none, 0, rfl, Nat.le_refl _, fun h => absurd rfl h, fun _ => rfl⟩
  | .ref _, h => by cases h
  | .clo _ _, h => by cases h

theorem dfl_row (R : RC) (L : Ref → Option Pl) (k i : Nat) (gs : List Nat) : ∀ (cs : List Cell) (q : Nat), cs.all Cell.zb = true → ∃ ys, RepL R L (rowO k i (fun _ => true) gs cs q (dfl (rowsTy cs))) ys
  | [], _, _ => ⟨[], by simp [rowO, RepL]⟩
  | .d t :: r, q, h => by
    simp only [List.all_cons, Bool.and_eq_true, Cell.zb] at h
    obtain ⟨c, hc⟩ := dfl_rep R t h.1
    obtain ⟨d, hd⟩ := dfl_row R L k i gs r q h.2
    exact ⟨c ++ d, (RepL.ofT t hc).append hd⟩
  | .sl t :: r, q, h => by
    simp only [List.all_cons, Bool.and_eq_true] at h
    obtain ⟨d, hd⟩ := dfl_row R L k i gs r (q + 1) h.2
    refine ⟨undef :: d, ?_⟩
    simp only [rowO, RepL]
    exact ⟨_, _, rfl, by simp [Rep], hd⟩

section
variable {c : Ctx} {I : Nat → Prop} {L : Ref → Option Pl} {s : St} {a : Act} {w : World} {call : CallF}

theorem Sim.objNew (h : Sim c I L s a w) {s0 : St} {k : Nat} {tb : Blk} {cs : List Cell} {l : List (Val (rowsTy cs))} {gs : List Nat} (htb : s.heap[k]? = some (some tb)) (htct : tb.ct = .tab cs l [] gs) (hmk : isMapK cs = false)
    {x x' : Val (rowsTy cs)} {us : List (Nat × Src)} {zs : List Value} (hput : RowPut (c.rc I L w) L s0 k l.length (fun _ => true) gs cs 1 x x' us zs) (hall : ∀ q, q ∈ ownQs cs 1 → q ∈ us.map (·.1))
    (hrd : ∀ q src r, (q, src) ∈ us → src.ref k l.length q = some r → s.rd r = s0.rd r) (hnd : nodupN (srcIds us) = true)
    {w' : World} {T : TypeId} (hheap : w'.heap = w.heap.push (.cells zs.toArray T (0, 0))) (hio : IO w w') :
    ∃ L', Sim c I L' ⟨s.env, putAll s.heap (goneA us ++ [(.l k, { tb with ct := .tab cs (l ++ [x']) [] gs })])⟩ a w' ∧ L' (.o k l.length 0) = some ⟨w.heap.size, 0, 0, 0, 0, false⟩ := by
  obtain ⟨n, hn⟩ : ∃ n, n = l.length := ⟨_, rfl⟩
  rw [← hn] at hput hrd ⊢
  obtain ⟨qs, hqs⟩ : ∃ qs, qs = us.map (·.1) := ⟨_, rfl⟩
  have hqnd : qs.Nodup := by rw [hqs]; exact hput.nodup
  rw [← hqs] at hall
  have hge : ∀ q, q ∈ qs → 1 ≤ q := fun q hq => by
    rw [hqs] at hq
    obtain ⟨p, hp, rfl⟩ := List.mem_map.1 hq
    exact hput.ge p hp
  have hmem : ∀ q, q ∈ qs → ∃ src, (q, src) ∈ us := fun q hq => by
    rw [hqs] at hq
    obtain ⟨p, hp, rfl⟩ := List.mem_map.1 hq
    exact ⟨p.2, hp⟩
  have hmem' : ∀ q src, (q, src) ∈ us → q ∈ qs := fun q src hm => by
    rw [hqs]
    exact List.mem_map.2 ⟨_, hm, rfl⟩
  obtain ⟨np, hnp⟩ : ∃ np : Nat → Pl, ∀ q src (t : Ty) (l' : List (Val t)), (q, src) ∈ us → slO q cs 1 x' = some ⟨t, l'⟩ → np q = newPl L k n q t (gs.getD q 0) src := by
    have this : ∀ q, ∃ p : Pl, ∀ src (t : Ty) (l' : List (Val t)), (q, src) ∈ us → slO q cs 1 x' = some ⟨t, l'⟩ → p = newPl L k n q t (gs.getD q 0) src := by
      intro q
      by_cases hq : ∃ (src : Src) (t : Ty) (l' : List (Val t)), (q, src) ∈ us ∧ slO q cs 1 x' = some ⟨t, l'⟩
      · obtain ⟨src, t, l', hm, hsl⟩ := hq
        refine ⟨newPl L k n q t (gs.getD q 0) src, fun src2 t2 l2 hm2 hsl2 => ?_⟩
        have e1 : src = src2 := nodup_fst (by rw [← hqs]; exact hqnd) hm hm2
        rw [hsl] at hsl2
        injection hsl2 with hsl2
        injection hsl2 with e2 _
        rw [e1, e2]
      · exact ⟨⟨0, 0, 0, 0, 0, true⟩, fun src t l' hm hsl => absurd ⟨src, t, l', hm, hsl⟩ hq⟩
    exact ⟨fun q => (this q).choose, fun q => (this q).choose_spec⟩
  have hU : ∀ q src, (q, src) ∈ us → ∃ (t : Ty) (l' : List (Val t)) (v : Value), slO q cs 1 x' = some ⟨t, l'⟩ ∧ Taken L s0 k n q t l' src v ∧ np q = newPl L k n q t (gs.getD q 0) src := by
    intro q src hm
    obtain ⟨t, l0, l', v, g1, g2, g3⟩ := hput.mem q src hm
    exact ⟨t, l', v, g2, g3, hnp q src t l' hm g2⟩
  have hOK : ∀ q src, (q, src) ∈ us → ∀ (t : Ty) (l' : List (Val t)) (v : Value), Taken L s0 k n q t l' src v → _ := fun q src hm t l' v ht => newPl_ok (G := gs.getD q 0) h ht (fun r hr => hrd q src r hm hr)
  have hloc : ∀ q id i0 t g, (q, Src.loc id i0 t g) ∈ us → ∃ p b l0, L (.l id) = some p ∧ s.heap[id]? = some (some b) ∧ b.ct = .sl t l0 ∧ b.gen = p.gen ∧ g = b.gen ∧ p.w = t.size := by
    intro q id i0 t g hm
    obtain ⟨t1, l', v, _, ht, _⟩ := hU q _ hm
    obtain ⟨ad, cap, _, _, _, ht⟩ := ht
    simp only [Src.ref] at ht
    obtain ⟨p, b, l1, hp, hb, hz, hbg, hct, hsrc, _⟩ := ht
    obtain ⟨e1, e2⟩ := hsrc id i0 t g rfl
    subst e1
    have hb' : s.rd (.l id) = some b := by rw [hrd q _ (.l id) hm rfl]; exact hb
    obtain ⟨⟨_, hk⟩, _⟩ := h.get hp hb'
    rw [hct] at hk
    refine ⟨p, b, l1, hp, rdv_l.1 (show rdv s.heap (.l id) = some b from hb'), hct, hbg, e2, ?_⟩
    rcases hk with ⟨_, _, h1⟩ | ⟨_, h1, _⟩
    · exact h1
    · exact h1
  have hlocE : ∀ id, id ∈ srcIds us → ∃ q i0 t g, (q, Src.loc id i0 t g) ∈ us := fun id hid => srcIds_mem hid
  have hknot : k ∉ srcIds us := by
    intro hk
    obtain ⟨q, i0, t, g, hm⟩ := hlocE k hk
    obtain ⟨p, b, l0, _, hb, hct, _⟩ := hloc q k i0 t g hm
    rw [htb] at hb
    injection hb with hb
    injection hb with hb
    subst hb
    rw [htct] at hct
    cases hct
  obtain ⟨g1, g2, g3, g4⟩ := goneA_sound (u := us) (h := s.heap) hnd (fun id hid => by
    obtain ⟨q, i0, t, g, hm⟩ := hlocE id hid
    obtain ⟨p, b, l0, _, hb, _⟩ := hloc q id i0 t g hm
    exact (List.getElem?_eq_some_iff.1 hb).1) (fun id b hid hb => by
    obtain ⟨q, i0, t, g, hm⟩ := hlocE id hid
    obtain ⟨p, b2, l0, _, hb2, hct, _⟩ := hloc q id i0 t g hm
    rw [hb2] at hb
    injection hb with hb
    injection hb with hb
    subst hb
    simp [Blk.isTab, hct])
  have hkl : k < s.heap.length := (List.getElem?_eq_some_iff.1 htb).1
  obtain ⟨hp', hhp'⟩ : ∃ hp', hp' = putAll s.heap (goneA us ++ [(.l k, { tb with ct := .tab cs (l ++ [x']) [] gs })]) := ⟨_, rfl⟩
  rw [← hhp']
  have hset : hp' = (putAll s.heap (goneA us)).set k (some { tb with ct := .tab cs (l ++ [x']) [] gs }) := by
    rw [hhp', putAll_append]
    simp only [putAll, putH]
  have r2 : hp'[k]? = some (some { tb with ct := .tab cs (l ++ [x']) [] gs }) := by rw [hset, List.getElem?_set_self (by rw [g1]; exact hkl)]
  have rgone : ∀ q id i0 t g, (q, Src.loc id i0 t g) ∈ us → rdv hp' (.l id) = some { ct := .sl t [], gen := g + 1, frozen := false } := by
    intro q id i0 t g hm
    have hne : k ≠ id := fun e => hknot (by rw [e]; exact mem_srcIds hm)
    rw [rdv_l, hset, List.getElem?_set_ne hne]
    exact rdv_l.1 (g4 q id i0 t g hm)
  have rl : ∀ id, id ≠ k → id ∉ srcIds us → rdv hp' (.l id) = rdv s.heap (.l id) := by
    intro id hne hn
    simp only [rdv, hset, List.getElem?_set_ne (Ne.symm hne)]
    rw [g3 id hn]
  have ro : ∀ k' i' q, k' ≠ k → rdv hp' (.o k' i' q) = rdv s.heap (.o k' i' q) := by
    intro k' i' q hne
    have : rdv hp' (.o k' i' q) = rdv (putAll s.heap (goneA us)) (.o k' i' q) := by
      simp only [rdv, hset, List.getElem?_set_ne (Ne.symm hne)]
    rw [this, g2 _ (fun id _ e => by cases e)]
  have rn : ∀ q, rdv hp' (.o k n q) = viewV k n cs x' [] gs q := by
    intro q
    simp only [rdv, r2]
    rw [if_pos (by simp [hn])]
    congr 1
    rw [hn, List.getD_eq_getElem?_getD, List.getElem?_append_right (Nat.le_refl _), Nat.sub_self]
    rfl
  have rk : ∀ i' q, i' ≠ n → rdv hp' (.o k i' q) = rdv s.heap (.o k i' q) := by
    intro i' q hne
    simp only [rdv, r2, htb, htct, List.length_append, List.length_singleton]
    by_cases hi : i' < l.length
    · rw [if_pos (by omega), if_pos hi]
      congr 1
      rw [List.getD_eq_getElem?_getD, List.getElem?_append_left hi, ← List.getD_eq_getElem?_getD]
    · rw [if_neg (by omega), if_neg hi]
  have Ln : ∀ q, L (.o k n q) = none := by
    intro q
    cases hl : L (.o k n q) with
    | none => rfl
    | some p =>
      obtain ⟨b, hb⟩ := h.dom _ p hl
      simp only [rdv, htb, htct] at hb
      rw [if_neg (by omega)] at hb
      cases hb
  let L' : Ref → Option Pl := fun r => match r with
    | .l id => if id ∈ srcIds us then (L (.l id)).map fun p => { p with gen := p.gen + 1, virt := true } else L (.l id)
    | .o k' i' q => if k' = k ∧ i' = n then (if q = 0 then some ⟨w.heap.size, 0, 0, 0, 0, false⟩ else if q ∈ qs then some (np q) else none) else L (.o k' i' q)
  have L1 : ∀ id, id ∉ srcIds us → L' (.l id) = L (.l id) := fun id hn => if_neg hn
  have L2 : ∀ id, id ∈ srcIds us → L' (.l id) = (L (.l id)).map fun p => { p with gen := p.gen + 1, virt := true } := fun id hn => if_pos hn
  have L0 : L' (.o k n 0) = some ⟨w.heap.size, 0, 0, 0, 0, false⟩ := by show (if k = k ∧ n = n then _ else _) = _; rw [if_pos ⟨rfl, rfl⟩, if_pos rfl]
  have L3 : ∀ q, q ∈ qs → L' (.o k n q) = some (np q) := fun q hq => by
    have := hge q hq
    show (if k = k ∧ n = n then _ else _) = _
    rw [if_pos ⟨rfl, rfl⟩, if_neg (by omega), if_pos hq]
  have L4 : ∀ q, q ∉ qs → q ≠ 0 → L' (.o k n q) = none := fun q hq h0 => by
    show (if k = k ∧ n = n then _ else _) = _
    rw [if_pos ⟨rfl, rfl⟩, if_neg h0, if_neg hq]
  have L5 : ∀ k' i' q, ¬ (k' = k ∧ i' = n) → L' (.o k' i' q) = L (.o k' i' q) := fun k' i' q hn => if_neg hn
  have hl : LLe L L' := by
    intro r p hp
    cases r with
    | l id =>
      by_cases hid : id ∈ srcIds us
      · exact ⟨{ p with gen := p.gen + 1, virt := true }, by rw [L2 id hid, hp]; rfl, rfl, .inr ⟨Nat.lt_succ_self _, fun hb => hb⟩⟩
      · exact ⟨p, by rw [L1 id hid]; exact hp, rfl, .inl rfl⟩
    | o k' i' q =>
      by_cases hkn : k' = k ∧ i' = n
      · obtain ⟨rfl, rfl⟩ := hkn
        rw [Ln] at hp
        cases hp
      · exact ⟨p, by rw [L5 k' i' q hkn]; exact hp, rfl, .inl rfl⟩
  have hO : ∀ r p, L' r = some p → p.virt = false → (r = .o k n 0 ∧ p = ⟨w.heap.size, 0, 0, 0, 0, false⟩) ∨ ∃ r0 p0, L r0 = some p0 ∧ p0.virt = false ∧ p.b = p0.b ∧
      ((r = r0 ∧ ∀ id, r0 = .l id → id ∉ srcIds us) ∨ ∃ q id i0 t g, r = .o k n q ∧ (q, Src.loc id i0 t g) ∈ us ∧ r0 = .l id) := by
    intro r p hp hv
    cases r with
    | l id =>
      right
      by_cases hid : id ∈ srcIds us
      · rw [L2 id hid] at hp
        obtain ⟨p0, _, rfl⟩ := Option.map_eq_some_iff.1 hp
        cases hv
      · rw [L1 id hid] at hp
        exact ⟨_, p, hp, hv, rfl, .inl ⟨rfl, fun id' e => by injection e with e; rw [← e]; exact hid⟩⟩
    | o k' i' q =>
      by_cases hkn : k' = k ∧ i' = n
      · obtain ⟨rfl, rfl⟩ := hkn
        by_cases h0 : q = 0
        · subst h0
          rw [L0] at hp
          injection hp with hp
          exact .inl ⟨rfl, hp.symm⟩
        · right
          by_cases hq : q ∈ qs
          · rw [L3 q hq] at hp
            injection hp with hp
            subst hp
            obtain ⟨src, hm⟩ := hmem q hq
            obtain ⟨t2, l', v, hs1, ht, hnpq⟩ := hU q src hm
            obtain ⟨_, _, _, _, k5⟩ := hOK q src hm t2 l' v ht
            rw [hnpq] at hv ⊢
            obtain ⟨r, p0, hr, hp0, hpv, hpb0, _⟩ := k5 hv
            cases src with
            | nil => cases hr
            | own i0 =>
              simp only [Src.ref, Option.some.injEq] at hr
              subst hr
              exact ⟨_, p0, hp0, hpv, hpb0, .inl ⟨rfl, fun id e => by cases e⟩⟩
            | loc id i0 t g =>
              simp only [Src.ref, Option.some.injEq] at hr
              subst hr
              exact ⟨_, p0, hp0, hpv, hpb0, .inr ⟨q, id, i0, t, g, rfl, hm, rfl⟩⟩
          · rw [L4 q hq h0] at hp
            cases hp
      · right
        rw [L5 k' i' q hkn] at hp
        exact ⟨_, p, hp, hv, rfl, .inl ⟨rfl, fun id e => by cases e⟩⟩
  have hold : ∀ b, b < w.heap.size → w'.heap[b]? = w.heap[b]? := fun b hb => heap_push_old hheap b hb
  have hmono : RLe (c.rc I L w) (c.rc I L' w') → ∀ r p b, L r = some p → BlkOK (c.rc I L w) L w p b → BlkOK (c.rc I L' w') L' w' p b := by
    intro hr r p b hp hk
    exact hk.mono hr hl (fun hv => hold _ (h.own r p hp hv).2) (fun hv o => cell?_heap _ _ (hold _ (h.own r p hp hv).2))
  refine ⟨L', h.turn hl (by rw [hheap]; simp) hio (fun b hb _ => hold b hb) (fun hr r b hb => ?_) (fun r p hp => ?_) (fun r p hp hv => ?_) (fun r r' p p' hp hp' hv hv' hbb => ?_), L0⟩
  · cases r with
    | l id =>
      by_cases hk : id = k
      · subst hk
        rw [rdv_l.2 r2] at hb
        injection hb with hb
        subst hb
        obtain ⟨p1, hp1, hk1, hf1⟩ := h.blk (.l id) tb (rdv_l.2 htb)
        refine ⟨p1, by rw [L1 id hknot]; exact hp1, ?_, hf1⟩
        unfold BlkOK at hk1 ⊢
        rw [htct] at hk1
        exact hk1
      · by_cases hid : id ∈ srcIds us
        · obtain ⟨q, i0, t, g, hm⟩ := hlocE id hid
          obtain ⟨p, b0, l0, hp, _, _, hbg, hg, hpw⟩ := hloc q id i0 t g hm
          rw [rgone q id i0 t g hm] at hb
          injection hb with hb
          subst hb
          refine ⟨{ p with gen := p.gen + 1, virt := true }, by rw [L2 id hid, hp]; rfl, ⟨?_, .inl ⟨rfl, rfl, hpw⟩⟩, fun _ hv => by cases hv⟩
          show p.gen + 1 = g + 1
          rw [hg, hbg]
        · rw [rl id hk hid] at hb
          obtain ⟨p1, hp1, hk1, hf1⟩ := h.blk _ b hb
          exact ⟨p1, by rw [L1 id hid]; exact hp1, hmono hr _ p1 b hp1 hk1, hf1⟩
    | o k' i' q =>
      by_cases hkk : k' = k
      · subst hkk
        by_cases hii : i' = n
        · subst hii
          rw [rn] at hb
          cases q with
          | zero =>
            simp only [viewV, objCt_box hmk, Option.some.injEq] at hb
            subst hb
            refine ⟨_, L0, ⟨rfl, rfl, rfl, _, T, heap_push_new hheap, ?_⟩, fun _ _ hI => ?_⟩
            · have hrow := hput.row (st' := fun q => decide (q ∉ qs)) hr hl (U := us) (CS := cs) (X := x') (gs' := gs) (fun q hq => ⟨?_, rfl⟩) (fun q src t l' v hm hsl ht => ⟨?_, ?_⟩) (fun p hp => hp) (fun p hp _ => hp) (fun _ _ => rfl)
              · rw [rowO_congr (st' := fun q => decide (q ∉ qs))]
                · exact hrow
                · intro q hq
                  have := hall q hq
                  simp [this]
              · have hqn : q ∉ qs := fun hm => by
                  obtain ⟨src, hm⟩ := hmem q hm
                  exact hq _ hm rfl
                simp [hqn]
              · have := hmem' q src hm
                simp [this]
              · obtain ⟨_, _, _, k4, _⟩ := hOK q src hm t l' v ht
                refine k4 _ _ ?_
                rw [L3 q (hmem' q src hm), hnp q src t l' hm hsl]
            · have := h.imm _ hI
              simp only at this
              omega
          | succ q =>
            simp only [viewV] at hb
            cases hsl : slO (q + 1) cs 1 x' with
            | none => rw [hsl] at hb; cases hb
            | some ty =>
              obtain ⟨t, y⟩ := ty
              rw [hsl] at hb
              simp only [List.not_mem_nil, if_false, Option.some.injEq] at hb
              subst hb
              have hq := hall _ (slO_own hsl)
              obtain ⟨src, hm⟩ := hmem _ hq
              obtain ⟨t2, l', v, hs1, ht, hnpq⟩ := hU _ src hm
              rw [hsl] at hs1
              simp only [Option.some.injEq, Sigma.mk.injEq] at hs1
              obtain ⟨rfl, hs1⟩ := hs1
              have hs1 := eq_of_heq hs1
              subst hs1
              obtain ⟨k1, k2, k3, k4, k5⟩ := hOK _ src hm t y v ht
              refine ⟨np (q + 1), L3 _ hq, ?_, fun _ hv => ?_⟩
              · rw [hnpq]
                refine k3.mono hr hl (fun hv => ?_) (fun hv o => ?_)
                · obtain ⟨r, p0, hr0, hp0, hpv, hpb0, _⟩ := k5 hv
                  rw [hpb0]
                  exact hold _ (h.own r p0 hp0 hpv).2
                · obtain ⟨r, p0, hr0, hp0, hpv, hpb0, _⟩ := k5 hv
                  refine cell?_heap _ _ ?_
                  rw [hpb0]
                  exact hold _ (h.own r p0 hp0 hpv).2
              · rw [hnpq] at hv ⊢
                obtain ⟨r, p0, hr0, hp0, hpv, hpb0, hnI⟩ := k5 hv
                rw [hpb0]
                exact hnI
        · rw [rk i' q hii] at hb
          obtain ⟨p1, hp1, hk1, hf1⟩ := h.blk _ b hb
          exact ⟨p1, by rw [L5 _ _ _ (fun hx => hii hx.2)]; exact hp1, hmono hr _ p1 b hp1 hk1, hf1⟩
      · rw [ro k' i' q hkk] at hb
        obtain ⟨p1, hp1, hk1, hf1⟩ := h.blk _ b hb
        exact ⟨p1, by rw [L5 _ _ _ (fun hx => hkk hx.1)]; exact hp1, hmono hr _ p1 b hp1 hk1, hf1⟩
  · cases r with
    | l id =>
      by_cases hk : id = k
      · subst hk; exact ⟨_, rdv_l.2 r2⟩
      · by_cases hid : id ∈ srcIds us
        · obtain ⟨q, i0, t, g, hm⟩ := hlocE id hid
          exact ⟨_, rgone q id i0 t g hm⟩
        · rw [L1 id hid] at hp
          rw [rl id hk hid]
          exact h.dom _ p hp
    | o k' i' q =>
      by_cases hkk : k' = k
      · subst hkk
        by_cases hii : i' = n
        · subst hii
          rw [rn]
          by_cases h0 : q = 0
          · subst h0; exact ⟨_, rfl⟩
          · by_cases hq : q ∈ qs
            · obtain ⟨src, hm⟩ := hmem _ hq
              obtain ⟨t2, l', v, hs1, ht, hnpq⟩ := hU _ src hm
              obtain ⟨q, rfl⟩ := Nat.exists_eq_succ_of_ne_zero h0
              simp only [viewV, hs1]
              exact ⟨_, rfl⟩
            · rw [L4 q hq h0] at hp
              cases hp
        · rw [rk i' q hii]
          rw [L5 _ _ _ (fun hx => hii hx.2)] at hp
          exact h.dom _ p hp
      · rw [ro k' i' q hkk]
        rw [L5 _ _ _ (fun hx => hkk hx.1)] at hp
        exact h.dom _ p hp
  · rcases hO r p hp hv with ⟨_, rfl⟩ | ⟨r0, p0, hp0, hv0, hb0, _⟩
    · exact ⟨by rw [hheap]; simp, .inl (Nat.le_refl _)⟩
    · rw [hb0]
      have := (h.own _ p0 hp0 hv0).2
      exact ⟨by rw [hheap]; simp; omega, .inr ⟨r0, p0, hp0, hv0, rfl⟩⟩
  · rcases hO r p hp hv with ⟨e, rfl⟩ | ⟨r0, p0, hp0, hv0, hb0, h0⟩ <;> rcases hO r' p' hp' hv' with ⟨e', rfl⟩ | ⟨r1, p1, hp1, hv1, hb1', h1⟩
    · rw [e, e']
    · have := (h.own _ p1 hp1 hv1).2
      simp only at hbb
      omega
    · have := (h.own _ p0 hp0 hv0).2
      simp only at hbb
      omega
    · have e := h.inj r0 r1 p0 p1 hp0 hp1 hv0 hv1 (by rw [← hb0, ← hb1', hbb])
      subst e
      rcases h0 with ⟨e0, n0⟩ | ⟨q, id, i0, t, g, e0, m0, f0⟩ <;> rcases h1 with ⟨e1, n1⟩ | ⟨q', id', i0', t', g', e1, m1, f1⟩
      · rw [e0, e1]
      · exact absurd (mem_srcIds m1) (n0 id' f1)
      · exact absurd (mem_srcIds m0) (n1 id f0)
      · rw [f0] at f1
        injection f1 with f1
        subst f1
        rw [e0, e1, srcIds_inj hnd m0 m1]

/-- the operation -/
theorem newOA_sound (h : Sim c I L s a w) {ti : TyI} {k : Nat} {cells : List AV} {vs : Array Value} {T : TypeId} {o : Oper} (hv : RepL (c.rc I L w) L cells vs.toList)
    (hx : (execOp a.eval o).run c.P w = .ok (.value (.pointer (some ⟨w.heap.size, 0, none⟩))) { w with heap := w.heap.push (.cells vs T) }) {δ : Dl} {rs : List Nat}
    (e : (newOA c.E ti k cells).run call s.rd = some (δ, rs)) : OpOK c s a w o δ := by
  unfold newOA at e
  obtain ⟨tb, l1, htb, e1, rfl⟩ := HM.run_rd e
  have htb' := rdv_l.1 (show rdv s.heap (.l k) = some tb from htb)
  split at e1
  rotate_left
  · cases e1
  rename_i cs l st gs htct
  split at e1
  rotate_left
  · cases e1
  rename_i hcond
  obtain ⟨hall, hsz, hmk⟩ := hcond
  obtain ⟨⟨x', f, u⟩, r1, r2, e2, e3, rfl⟩ := HM.run_bind e1
  obtain ⟨fz, r3, r4, e4, e5, rfl⟩ := HM.run_bind e3
  split at e5
  rotate_left
  · cases e5
  rename_i hc
  obtain ⟨hnd, hcf, hown, hzb, hst, hlen⟩ := hc
  obtain ⟨rfl, rfl⟩ := HM.run_ret e5
  have hst : st = [] := by simpa using hst
  subst hst
  have hvl := hv.length
  obtain ⟨ys, hys⟩ := dfl_row (c.rc I L w) L k l.length gs cs 1 hzb
  have hysl : ys.length = (rowsTy cs).size := by
    have h1 := hys.length
    have h2 : ∀ (cs : List Cell) (q : Nat) (x : Val (rowsTy cs)), (rowO k l.length (fun _ => true) gs cs q x).length = (rowsTy cs).size := by
      intro cs
      induction cs with
      | nil => intro q x; rfl
      | cons cell r ih =>
        intro q x
        cases cell with
        | d t => simp only [rowO, List.length_append, cellsT_length, ih, rowsTy, Ty.size]
        | sl t => simp only [rowO, List.length_cons, ih, rowsTy, Ty.size]; omega
    rw [h1, h2]
  obtain ⟨told, hbound, hput⟩ := storeO_sound h e2 hv hys
  have hput := hput (heldBy I L f) (fun b hb => .inl hb) (fun id hid p hp hv => .inr ⟨id, p, hid, hp, hv, rfl⟩)
  have hF := h.freezeAll e4 told
  obtain ⟨f1, f2, f3, f4, f5⟩ := told.freeze e4
  have hknf : Ref.l k ∉ f := fun hm => by
    have := told.notab hm htb'
    simp [Blk.isTab, htct] at this
  have hzs : ovl ys 0 vs.toList = vs.toList := by
    apply List.ext_getElem?
    intro m
    rw [ovl_get]
    by_cases hm : m < vs.toList.length
    · rw [if_pos ⟨Nat.zero_le _, by omega, by omega⟩, Nat.sub_zero]
    · rw [if_neg (by omega), List.getElem?_eq_none (by omega), List.getElem?_eq_none (by omega)]
  rw [hzs] at hput
  have hS := hF.objNew (s0 := s) (k := k) (tb := tb) (T := T) (w' := { w with heap := w.heap.push (.cells vs T) }) (show (putAll s.heap fz)[k]? = _ by rw [f5 k hknf]; exact htb') htct hmk hput (fun q hq => ?_) (fun q src r hm hr => ?_) hnd rfl ⟨rfl, rfl, rfl⟩
  · obtain ⟨L', hS, hL'⟩ := hS
    refine OpOK.both hx (I' := heldBy I L f) (L' := L') ?_ ?_
    · rw [List.append_assoc, putAll_append]
      exact hS
    · simp only [Rep]
      exact ⟨w.heap.size, by simp [Ctx.rc, rcW, hOf, hL'], rfl⟩
  · simp only [List.all_eq_true] at hown
    have := hown q hq
    obtain ⟨y, hy, hb⟩ := List.any_eq_true.1 this
    rw [Nat.eq_of_beq_eq_true hb]
    exact hy
  · show rdH (putAll s.heap fz) r = rdH s.heap r
    refine (f2 r fun hm2 => ?_).2
    cases src with
    | nil => cases hr
    | own i0 =>
      simp only [Src.ref, Option.some.injEq] at hr
      subst hr
      obtain ⟨_, _, e0, _⟩ := f3 _ hm2
      cases e0
    | loc id i0 t g =>
      simp only [Src.ref, Option.some.injEq] at hr
      subst hr
      simp only [List.all_eq_true] at hcf
      have := hcf id (mem_srcIds hm)
      simp [hm2] at this

theorem op_allocObj (h : Sim c I L s a w) (hE : EnvOK c.P c.E) {t : TypeId} {o : Oper} (ho : o.op = .alloc t) {k : Nat} {cs : List Cell} (hkd : c.E.kind t = some (k, cs)) {newId : Nat} {δ : Dl} {rs : List Nat}
    (e : (aop c.E (aeval s.env) newId o.op).run call s.rd = some (δ, rs)) : OpOK c s a w o δ := by
  rw [ho] at e
  simp only [aop, hkd] at e
  split at e
  · rename_i ti hty
    obtain ⟨d, i, z, hT⟩ := hE.ty _ ti hty
    refine newOA_sound h (vs := z.cells) (T := t) (hT.zeroL _ _) ?_ e
    simp only [execOp, ho]
    simp [Instr.alloc, hT.run_zero, newVar, newRow]
  · cases e

theorem op_boxObj (h : Sim c I L s a w) {t : TypeId} {x : Operand} {o : Oper} (ho : o.op = .box t x) {k : Nat} {cs : List Cell} (hkd : c.E.kind t = some (k, cs)) {newId : Nat} {δ : Dl} {rs : List Nat}
    (e : (aop c.E (aeval s.env) newId o.op).run call s.rd = some (δ, rs)) : OpOK c s a w o δ := by
  rw [ho] at e
  simp only [aop, hkd] at e
  have hx := h.eval x
  split at e
  · rename_i ti cs hty hcs
    split at e
    · refine newOA_sound h (vs := (a.eval x).cells) (T := t) (cells_sound hcs hx) ?_ e
      simp only [execOp, ho]
      simp [Instr.box, newVar, newRow]
    · cases e
  · cases e

end
end Go.Eng

/-
  The abstract machine, part 17a: what goes over from one call to another.
-/
namespace Go.Eng

theorem any_beq {ks : List Nat} {k : Nat} : ks.any (Nat.beq k) = true ↔ k ∈ ks := by
  rw [List.any_eq_true]
  constructor
  · rintro ⟨x, hx, hb⟩
    rw [Nat.eq_of_beq_eq_true hb]
    exact hx
  · intro h
    exact ⟨k, h, Nat.beq_refl k⟩

/-- a reading for another one, as far as these kinds' objects go (fl: and no reference else) -/
structure RTo (R R' : RC) (ks : List Nat) (fl : Bool) : Prop where
  c : R'.C = R.C
  t : R'.T = R.T
  i : fl = false → ∀ b, R.I b → R'.I b
  h : ∀ k i b, k ∈ ks → R.H k i = some b → R'.H k i = some b

theorem RTo.at {R R' : RC} {ks : List Nat} {fl : Bool} (h : RTo R R' ks fl) {cs : List Value} {b o : Nat} (ha : At R cs b o) : At R' cs b o := fun j v hj => by rw [h.c]; exact ha j v hj

theorem RTo.err {R R' : RC} {ks : List Nat} (h : RTo R R' ks false) {e : Er} {y : Value} (he : RepE R e y) : RepE R' e y := by
  cases e with
  | nil => exact he
  | s g => unfold RepE at *; rw [h.t]; exact he
  | «at» p g =>
    unfold RepE at *
    obtain ⟨b, o, rfl, hb, h1, hv, h2⟩ := he
    rw [h.t, h.c]
    exact ⟨b, o, rfl, h.i rfl b hb, h1, hv, h2⟩

theorem RepT.to {R R' : RC} {ks : List Nat} {fl : Bool} (h : RTo R R' ks fl) : ∀ (t : Ty) {x : Val t} {cs : List Value}, t.ok ks fl = true → RepT R t x cs → RepT R' t x cs
  | .int _, _, _, _, hx | .bool, _, _, _, hx | .str, _, _, _, hx | .flt, _, _, _, hx | .unit, _, _, _, hx | .nat, _, _, _, hx => hx
  | .err, _, _, hk, ⟨y, e, hy⟩ => by
    simp only [Ty.ok, Bool.not_eq_true'] at hk
    subst hk
    exact ⟨y, e, h.err hy⟩
  | .pair a b, _, _, hk, ⟨c, d, e, hc, hd⟩ => by
    simp only [Ty.ok, Bool.and_eq_true] at hk
    exact ⟨c, d, e, RepT.to h a hk.1 hc, RepT.to h b hk.2 hd⟩
  | .st a, _, _, hk, hx => RepT.to h a (by simpa only [Ty.ok] using hk) hx
  | .sl a, _, _, hk, ⟨ad, cap, e, hl, hr, hz⟩ => by
    simp only [Ty.ok, Bool.and_eq_true, Bool.not_eq_true'] at hk
    obtain ⟨hf, hk⟩ := hk
    subst hf
    exact ⟨ad, cap, e, hl, fun hn => by
      obtain ⟨b, o, ea, hb, hi⟩ := hr hn
      refine ⟨b, o, ea, h.i rfl b hb, fun i hlt => ?_⟩
      obtain ⟨c, hc, hat⟩ := hi i hlt
      exact ⟨c, RepT.to h a hk hc, h.at hat⟩, hz⟩
  | .ref a, _, _, hk, ⟨b, o, e, hb, c, hc, hat⟩ => by
    simp only [Ty.ok, Bool.and_eq_true, Bool.not_eq_true'] at hk
    obtain ⟨hf, hk⟩ := hk
    subst hf
    exact ⟨b, o, e, h.i rfl b hb, c, RepT.to h a hk hc, h.at hat⟩
  | .clo _ c, _, _, hk, ⟨cap, e, hc⟩ => by
    simp only [Ty.ok, Bool.and_eq_true, Bool.not_eq_true'] at hk
    obtain ⟨hf, hk⟩ := hk
    subst hf
    exact ⟨cap, e, RepT.to h c hk hc⟩
  | .hd k, x, _, hk, hx => by
    cases x with
    | none => exact hx
    | some i =>
      obtain ⟨b, hb, e⟩ := hx
      exact ⟨b, h.h k i b (any_beq.1 hk) hb, e⟩
  | .mh k, x, _, hk, hx => by
    cases x with
    | none => exact hx
    | some i =>
      obtain ⟨b, hb, e⟩ := hx
      exact ⟨b, h.h k i b (any_beq.1 hk) hb, e⟩
  | .dn, _, _, _, hx => hx
  | .dy t a r, x, _, hk, hx => by
    simp only [Ty.ok, Bool.and_eq_true] at hk
    cases x with
    | inl y =>
      obtain ⟨ds, hd, e⟩ := hx
      exact ⟨ds, RepT.to h a hk.1 hd, e⟩
    | inr y => exact ⟨RepT.to h r hk.2 hx.1, hx.2⟩

theorem RepL.to_all {R R' : RC} {L L' : Ref → Option Pl} {p : AV → Bool} : ∀ {l : List AV} {vs : List Value}, l.all p = true → (∀ x v, x ∈ l → p x = true → Rep R L x v → Rep R' L' x v) → RepL R L l vs → RepL R' L' l vs
  | [], _, _, _, h => by simpa only [RepL] using h
  | y :: r, _, ha, hp, h => by
    simp only [List.all_cons, Bool.and_eq_true] at ha
    simp only [RepL] at h ⊢
    obtain ⟨z, t, rfl, hz, ht⟩ := h
    exact ⟨z, t, rfl, hp y z (by simp) ha.1 hz, RepL.to_all ha.2 (fun x v hx => hp x v (by simp [hx])) ht⟩

theorem Rep.to {R R' : RC} {L L' : Ref → Option Pl} {ks : List Nat} {fl : Bool} {b0 : Nat} (h : RTo R R' ks fl) (hL : ∀ id p, b0 ≤ id → L (.l id) = some p → L' (.l id) = some p) : ∀ (n : Nat) {x : AV} {v : Value}, x.ok ks fl b0 n = true → Rep R L x v → Rep R' L' x v
  | 0, _, _, hk, _ => by simp [AV.ok] at hk
  | n + 1, x, v, hk, hx => by
    have all : ∀ {l : List AV} {vs : List Value}, l.all (AV.ok ks fl b0 n) = true → RepL R L l vs → RepL R' L' l vs := fun ha hl => RepL.to_all ha (fun x v _ hx hr => Rep.to h hL n hx hr) hl
    cases x with
    | v y => simpa only [Rep] using hx
    | er e =>
      simp only [AV.ok, Bool.not_eq_true'] at hk
      subst hk
      simp only [Rep] at *
      exact h.err hx
    | agg l =>
      simp only [AV.ok] at hk
      simp only [Rep] at *
      obtain ⟨cs, e, hl⟩ := hx
      exact ⟨cs, e, all hk hl⟩
    | tup l =>
      simp only [AV.ok] at hk
      simp only [Rep] at *
      obtain ⟨cs, e, hl⟩ := hx
      exact ⟨cs, e, all hk hl⟩
    | isl t l =>
      simp only [AV.ok] at hk
      simp only [Rep] at *
      exact RepT.to h (.sl t) (by simpa only [Ty.ok] using hk) hx
    | nsl t l =>
      simp only [AV.ok] at hk
      simp only [Rep] at *
      exact ⟨RepT.to h (.sl t) (by simpa only [Ty.ok] using hk) hx.1, hx.2⟩
    | iptr row j =>
      simp only [AV.ok, Bool.and_eq_true, Bool.not_eq_true'] at hk
      obtain ⟨hf, hk⟩ := hk
      subst hf
      simp only [Rep] at *
      obtain ⟨b, o, e, hb, cs, hr, ha⟩ := hx
      refine ⟨b, o, e, h.i rfl b hb, cs, ?_, h.at ha⟩
      exact RepL.to_all hk (fun x v _ hx hr => Rep.to (L := fun _ => none) (L' := fun _ => none) h (fun _ _ _ e => e) n hx hr) hr
    | gptr g j => simpa only [Rep] using hx
    | lsl t id i m g =>
      cases id with
      | l id =>
        simp only [AV.ok] at hk
        simp only [Rep] at *
        obtain ⟨p, hp, hr⟩ := hx
        exact ⟨p, hL id p (Nat.le_of_ble_eq_true hk) hp, hr⟩
      | o k i q => simp [AV.ok] at hk
    | lptr id i j g =>
      cases id with
      | l id =>
        simp only [AV.ok] at hk
        simp only [Rep] at *
        obtain ⟨p, hp, hr⟩ := hx
        exact ⟨p, hL id p (Nat.le_of_ble_eq_true hk) hp, hr⟩
      | o k i q => simp [AV.ok] at hk
    | iface t y =>
      simp only [AV.ok] at hk
      simp only [Rep] at *
      obtain ⟨z, e, hz⟩ := hx
      exact ⟨z, e, Rep.to h hL n hk hz⟩
    | fn f a1 c1 =>
      simp only [AV.ok, Bool.and_eq_true] at hk
      simp only [Rep] at *
      obtain ⟨a', c', e, ha, hc⟩ := hx
      exact ⟨a', c', e, all hk.1 ha, all hk.2 hc⟩
    | hd k x =>
      simp only [AV.ok] at hk
      simp only [Rep] at *
      exact RepT.to h (.hd k) (by simpa only [Ty.ok] using hk) hx
    | mh k x =>
      simp only [AV.ok] at hk
      simp only [Rep] at *
      exact RepT.to h (.mh k) (by simpa only [Ty.ok] using hk) hx
    | dy t x =>
      simp only [AV.ok] at hk
      simp only [Rep] at *
      exact RepT.to h t hk hx
    | top => simp [Rep]

theorem MapR.to {R R' : RC} {ks : List Nat} {fl : Bool} (h : RTo R R' ks fl) {a b : Ty} (ha : a.ok ks fl = true) (hb : b.ok ks fl = true) : ∀ {l : List (Val a × (Val b × Nat))} {es : List MapEntry}, MapR R a b l es → MapR R' a b l es
  | [], _, hx => hx
  | _ :: _, _, ⟨e, t, h1, ⟨⟨c2, r2, e2⟩, ⟨c3, r3, e3⟩, e4⟩, h4⟩ => ⟨e, t, h1, ⟨⟨c2, RepT.to h a ha r2, e2⟩, ⟨c3, RepT.to h b hb r3, e3⟩, e4⟩, MapR.to h ha hb h4⟩

theorem mapL_ok {cs : List Cell} {x : Val (rowsTy cs)} {a b : Ty} {l : List (Val a × (Val b × Nat))} {clk : Nat} {ks : List Nat} {fl : Bool} (h : mapL cs x = some (.mp a b l clk)) (hk : cs.all (Cell.ok ks fl) = true) : a.ok ks fl = true ∧ b.ok ks fl = true := by
  unfold mapL at h
  split at h
  · rename_i a' b' x
    injection h with h
    injection h with h1 h2 h3
    subst h1
    subst h2
    simp only [List.all_cons, List.all_nil, Cell.ok, Ty.ok, Bool.and_eq_true, Bool.and_true, Bool.true_and] at hk
    exact hk.2
  · cases h

/-- an object's row, in another reading -/
theorem rowO_to {R R' : RC} {L L' : Ref → Option Pl} {ks : List Nat} {fl : Bool} (h : RTo R R' ks fl) {k i : Nat} {gs gs' : List Nat}
    (hq : ∀ q p, L (.o k i q) = some p → 1 ≤ q → p.gen = gs.getD q 0 ∧ L' (.o k i q) = some { p with gen := gs'.getD q 0 }) : ∀ {cs : List Cell} {q : Nat} {x : Val (rowsTy cs)} {ys : List Value}, cs.all (Cell.ok ks fl) = true → 1 ≤ q →
    RepL R L (rowO k i (fun q => decide ((q, i) ∈ ([] : List (Nat × Nat)))) gs cs q x) ys → RepL R' L' (rowO k i (fun q => decide ((q, i) ∈ ([] : List (Nat × Nat)))) gs' cs q x) ys
  | [], _, _, _, _, _, h => h
  | .d t :: r, q, x, ys, hk, h1, hx => by
    simp only [List.all_cons, Bool.and_eq_true, Cell.ok] at hk
    simp only [rowO] at hx ⊢
    obtain ⟨c, d, rfl, hc, hd⟩ := hx.split
    exact (RepL.ofT t (RepT.to h t hk.1 (RepL.toT t hc))).append (rowO_to h hq hk.2 h1 hd)
  | .sl t :: r, q, x, ys, hk, h1, hx => by
    simp only [List.all_cons, Bool.and_eq_true] at hk
    simp only [rowO, RepL] at hx ⊢
    obtain ⟨y, tl, rfl, hy, ht⟩ := hx
    refine ⟨y, tl, rfl, ?_, rowO_to h hq hk.2 (by omega) ht⟩
    simp only [List.not_mem_nil, decide_false, Rep] at hy ⊢
    obtain ⟨p, hp, hw, hge, ad, cap, hv, hcap, hsome, hcur⟩ := hy
    obtain ⟨hg, hp'⟩ := hq q p hp h1
    exact ⟨_, hp', hw, Nat.le_refl _, ad, cap, hv, hcap, hsome, fun _ => hcur hg⟩

theorem slO_ty {ks : List Nat} {fl : Bool} {want : Nat} : ∀ {cs : List Cell} {q : Nat} {x : Val (rowsTy cs)} {t : Ty} {l : List (Val t)}, cs.all (Cell.ok ks fl) = true → slO want cs q x = some ⟨t, l⟩ → t.ok ks fl = true
  | [], _, _, _, _, _, h => by cases h
  | .d u :: r, q, x, t, l, hk, h => by
    simp only [List.all_cons, Bool.and_eq_true] at hk
    simp only [slO] at h
    exact slO_ty hk.2 h
  | .sl u :: r, q, x, t, l, hk, h => by
    simp only [List.all_cons, Bool.and_eq_true, Cell.ok] at hk
    simp only [slO] at h
    split at h
    · simp only [Option.some.injEq, Sigma.mk.injEq] at h
      rw [← h.1]
      exact hk.1
    · exact slO_ty hk.2 h

theorem slO_some {want : Nat} : ∀ {cs : List Cell} {q : Nat} {x : Val (rowsTy cs)}, want ∈ ownQs cs q → ∃ t l, slO want cs q x = some ⟨t, l⟩
  | [], _, _, h => by cases h
  | .d u :: r, q, x, h => by simp only [ownQs] at h; simp only [slO]; exact slO_some h
  | .sl u :: r, q, x, h => by
    simp only [ownQs, List.mem_cons] at h
    simp only [slO]
    cases hb : Nat.beq q want with
    | true => exact ⟨u, _, rfl⟩
    | false =>
      rcases h with rfl | h
      · rw [Nat.beq_refl] at hb; cases hb
      · exact slO_some h

theorem slO_same {want : Nat} : ∀ {cs : List Cell} {q : Nat} {x y : Val (rowsTy cs)} {t t' : Ty} {l : List (Val t)} {l' : List (Val t')}, slO want cs q x = some ⟨t, l⟩ → slO want cs q y = some ⟨t', l'⟩ → t = t'
  | [], _, _, _, _, _, _, _, h, _ => by cases h
  | .d u :: r, q, x, y, t, t', l, l', h, h' => by simp only [slO] at h h'; exact slO_same h h'
  | .sl u :: r, q, x, y, t, t', l, l', h, h' => by
    simp only [slO] at h h'
    cases hb : Nat.beq q want with
    | true =>
      rw [hb] at h h'
      simp only [Option.some.injEq, Sigma.mk.injEq] at h h'
      rw [← h.1, ← h'.1]
    | false =>
      rw [hb] at h h'
      exact slO_same h h'

theorem ownQs_range : ∀ {cs : List Cell} {q0 q : Nat}, q ∈ ownQs cs q0 → q0 ≤ q ∧ q < q0 + (ownQs cs q0).length
  | [], _, _, h => by cases h
  | .d u :: r, q0, q, h => by simp only [ownQs] at h ⊢; exact ownQs_range h
  | .sl u :: r, q0, q, h => by
    simp only [ownQs, List.mem_cons, List.length_cons] at h ⊢
    rcases h with rfl | h
    · omega
    · have := ownQs_range h; omega

/-! The heap at a call's beginning. -/

def tab0 (cs : List Cell) : Blk := { ct := .tab cs [] [] (List.replicate ((ownQs cs 1).length + 1) 0), gen := 0, frozen := false }

def putK : List (Option Blk) → List Nat → List Blk → List (Option Blk)
  | h, k :: ks, b :: bs => putK (h.set k (some b)) ks bs
  | h, _, _ => h

/-- the objects that a call sees (of other kinds: none) -/
def entryH (E : Env) (ks : List Nat) (bs : List Blk) : List (Option Blk) := putK (E.kinds.map fun cs => some (tab0 cs)) ks bs

theorem putK_length : ∀ (h : List (Option Blk)) (ks : List Nat) (bs : List Blk), (putK h ks bs).length = h.length
  | h, [], _ => by simp [putK]
  | h, _ :: _, [] => by simp [putK]
  | h, k :: ks, b :: bs => by simp only [putK]; rw [putK_length]; simp

theorem putK_other : ∀ (h : List (Option Blk)) (ks : List Nat) (bs : List Blk) (k : Nat), k ∉ ks → (putK h ks bs)[k]? = h[k]?
  | h, [], _, _, _ => by simp [putK]
  | h, _ :: _, [], _, _ => by simp [putK]
  | h, k' :: ks, b :: bs, k, hn => by
    simp only [List.mem_cons, not_or] at hn
    simp only [putK]
    rw [putK_other _ ks bs k hn.2, List.getElem?_set_ne (fun e => hn.1 e.symm)]

theorem putK_at : ∀ (h : List (Option Blk)) (ks : List Nat) (bs : List Blk) (j k : Nat) (b : Blk), ks.Nodup → (∀ k, k ∈ ks → k < h.length) → ks[j]? = some k → bs[j]? = some b → (putK h ks bs)[k]? = some (some b)
  | h, [], _, j, k, b, _, _, hk, _ => by simp at hk
  | h, _ :: _, [], j, k, b, _, _, _, hb => by simp at hb
  | h, k' :: ks, b' :: bs, 0, k, b, hn, hl, hk, hb => by
    simp only [List.getElem?_cons_zero, Option.some.injEq] at hk hb
    subst hk; subst hb
    simp only [List.nodup_cons] at hn
    simp only [putK]
    rw [putK_other _ ks bs k' hn.1, List.getElem?_set_self (hl k' (by simp))]
  | h, k' :: ks, b' :: bs, j + 1, k, b, hn, hl, hk, hb => by
    simp only [List.nodup_cons] at hn
    simp only [putK]
    exact putK_at _ ks bs j k b hn.2 (fun x hx => by simpa using hl x (by simp [hx])) (by simpa using hk) (by simpa using hb)

theorem entryH_length (E : Env) (ks : List Nat) (bs : List Blk) : (entryH E ks bs).length = E.kinds.length := by simp [entryH, putK_length]

end Go.Eng
