/-
  The abstract machine, part 15: a slice appended to.
-/
import Derived.Test.YtnbpgehpjhifgaaDoorLxEngO
namespace Go.Eng

section
variable {c : Ctx} {I : Nat → Prop} {L : Ref → Option Pl} {s : St} {a : Act} {w : World} {call : CallF}

/-- a slice's elements, cell behind cell -/
def Flat (R : RC) (u : Ty) (l : List (Val u)) (F : List Value) : Prop := F.length = l.length * u.size ∧ ∀ k, k < l.length → RepT R u (l.getD k (dfl u)) ((F.drop (k * u.size)).take u.size)

theorem Flat.nil (R : RC) (u : Ty) : Flat R u [] [] := ⟨by simp, fun k hk => by simp at hk⟩

theorem Flat.append {R : RC} {u : Ty} {l m : List (Val u)} {F G : List Value} (h : Flat R u l F) (g : Flat R u m G) : Flat R u (l ++ m) (F ++ G) := by
  refine ⟨by simp [h.1, g.1, Nat.add_mul], fun k hk => ?_⟩
  simp only [List.length_append] at hk
  by_cases hkl : k < l.length
  · have h1 : (l ++ m).getD k (dfl u) = l.getD k (dfl u) := by simp [List.getD_eq_getElem?_getD, List.getElem?_append_left hkl]
    rw [h1]
    have hle : (k + 1) * u.size ≤ l.length * u.size := Nat.mul_le_mul_right _ hkl
    rw [Nat.add_mul, Nat.one_mul] at hle
    have h2 : ((F ++ G).drop (k * u.size)).take u.size = (F.drop (k * u.size)).take u.size := by
      rw [List.drop_append_of_le_length (by rw [h.1]; omega), List.take_append_of_le_length (by rw [List.length_drop, h.1]; omega)]
    rw [h2]
    exact h.2 k hkl
  · have h1 : (l ++ m).getD k (dfl u) = m.getD (k - l.length) (dfl u) := by simp [List.getD_eq_getElem?_getD, List.getElem?_append_right (Nat.le_of_not_lt hkl)]
    rw [h1]
    have h2 : (F ++ G).drop (k * u.size) = G.drop ((k - l.length) * u.size) := by
      rw [List.drop_append, List.drop_eq_nil_of_le (by rw [h.1]; exact Nat.mul_le_mul_right _ (Nat.le_of_not_lt hkl)), h.1, List.nil_append, Nat.sub_mul]
    rw [h2]
    exact g.2 _ (by omega)

theorem Flat.mono {R R' : RC} (h : RLe R R') {u : Ty} {l : List (Val u)} {F : List Value} (f : Flat R u l F) : Flat R' u l F := ⟨f.1, fun k hk => (f.2 k hk).mono h⟩

/-- the cells of elements that lie somewhere -/
theorem flat_of_rows {R : RC} {u : Ty} {l : List (Val u)} {b o : Nat} (h : ∀ i, i < l.length → ∃ d, RepT R u (l.getD i (dfl u)) d ∧ At R d b (o + i * u.size)) : ∃ F, Flat R u l F ∧ At R F b o := by
  refine ⟨(List.range (l.length * u.size)).map fun j => (R.C b (o + j)).getD undef, ⟨by simp, fun k hk => ?_⟩, fun j v hj => ?_⟩
  · obtain ⟨d, hd, hat⟩ := h k hk
    have hlen := hd.length
    have : ((((List.range (l.length * u.size)).map fun j => (R.C b (o + j)).getD undef).drop (k * u.size)).take u.size) = d := by
      apply List.ext_getElem?
      intro j
      have hle : (k + 1) * u.size ≤ l.length * u.size := Nat.mul_le_mul_right _ hk
      rw [Nat.add_mul, Nat.one_mul] at hle
      by_cases hj : j < u.size
      · rw [List.getElem?_take_of_lt hj, List.getElem?_drop, List.getElem?_map, List.getElem?_range (by omega)]
        have hv : d[j]? = some d[j] := List.getElem?_eq_getElem (by omega)
        have := hat j _ hv
        rw [hv, Option.map_some, ← Nat.add_assoc, this]
        rfl
      · rw [List.getElem?_take_eq_none (by omega), List.getElem?_eq_none (by omega)]
    rw [this]
    exact hd
  · simp only [List.getElem?_map, Option.map_eq_some_iff] at hj
    obtain ⟨m, hm, rfl⟩ := hj
    have hjm : j < l.length * u.size ∧ m = j := by
      rw [List.getElem?_eq_some_iff] at hm
      obtain ⟨h1, h2⟩ := hm
      simp at h1 h2
      exact ⟨h1, h2.symm⟩
    obtain ⟨hlt, rfl⟩ := hjm
    -- which element
    have hsz : 0 < u.size := by
      rcases Nat.eq_zero_or_pos u.size with h0 | h0
      · rw [h0] at hlt; simp at hlt
      · exact h0
    have hk : m / u.size < l.length := (Nat.div_lt_iff_lt_mul hsz).2 hlt
    obtain ⟨d, hd, hat⟩ := h (m / u.size) hk
    have hr : m % u.size < d.length := by rw [hd.length]; exact Nat.mod_lt _ hsz
    have := hat (m % u.size) _ (List.getElem?_eq_getElem hr)
    rw [show o + m / u.size * u.size + m % u.size = o + m from by
      have := Nat.div_add_mod m u.size
      rw [Nat.mul_comm] at this
      omega] at this
    rw [this]
    rfl

theorem Flat.rows {R : RC} {u : Ty} {l : List (Val u)} {F : List Value} (h : Flat R u l F) {b o : Nat} (hat : At R F b o) : ∀ i, i < l.length → ∃ d, RepT R u (l.getD i (dfl u)) d ∧ At R d b (o + i * u.size) := by
  intro i hi
  refine ⟨_, h.2 i hi, fun j v hj => ?_⟩
  have hjlt : j < u.size := by
    rcases Nat.lt_or_ge j u.size with hl | hl
    · exact hl
    · rw [List.getElem?_take_eq_none hl] at hj; cases hj
  rw [List.getElem?_take_of_lt hjlt, List.getElem?_drop] at hj
  have := hat _ _ hj
  rw [Nat.add_assoc]
  exact this

/-- plain data lies in cells of one -/
theorem RepT.cell {R : RC} : ∀ (t : Ty) {x : Val t} {cs : List Value}, RepT R t x cs → ∀ v, v ∈ cs → v.oneCell' = true
  | .int k, _, _, h, v, hv => by simp only [RepT] at h; subst h; simp at hv; subst hv; rfl
  | .bool, _, _, h, v, hv => by simp only [RepT] at h; subst h; simp at hv; subst hv; rfl
  | .str, _, _, h, v, hv => by simp only [RepT] at h; subst h; simp at hv; subst hv; rfl
  | .flt, _, _, h, v, hv => by simp only [RepT] at h; subst h; simp at hv; subst hv; rfl
  | .err, e, _, h, v, hv => by
    obtain ⟨y, rfl, he⟩ := h
    simp at hv
    subst hv
    cases e with
    | nil => simp only [RepE] at he; subst he; rfl
    | s g => simp only [RepE] at he; obtain ⟨_, rfl⟩ := he; rfl
    | «at» p g => simp only [RepE] at he; obtain ⟨_, _, rfl, _⟩ := he; rfl
  | .unit, _, _, h, v, hv => by simp only [RepT] at h; subst h; cases hv
  | .nat, _, _, h, v, hv => by simp only [RepT] at h; subst h; cases hv
  | .pair a b, _, _, h, v, hv => by
    obtain ⟨c, d, rfl, hc, hd⟩ := h
    rcases List.mem_append.1 hv with hv | hv
    · exact RepT.cell a hc v hv
    · exact RepT.cell b hd v hv
  | .st a, _, _, h, v, hv => by simp only [RepT] at h; exact RepT.cell a h v hv
  | .sl a, l, _, h, v, hv => by obtain ⟨_, _, rfl, _⟩ := h; simp at hv; subst hv; rfl
  | .ref a, x, _, h, v, hv => by obtain ⟨b, o, rfl, _⟩ := h; simp at hv; subst hv; rfl
  | .clo f c, x, _, h, v, hv => by obtain ⟨cap, rfl, _⟩ := h; simp at hv; subst hv; rfl
  | .hd k, x, _, h, v, hv => by
    cases x with
    | none => have h : _ = _ := h; rw [h] at hv; simp at hv; subst hv; rfl
    | some i => obtain ⟨_, _, rfl⟩ := h; simp at hv; subst hv; rfl

theorem Flat.cell {R : RC} {u : Ty} {l : List (Val u)} {F : List Value} (h : Flat R u l F) (v : Value) (hv : v ∈ F) : v.oneCell' = true := by
  obtain ⟨j, hj, rfl⟩ := List.mem_iff_getElem.1 hv
  have hlt : j < l.length * u.size := by rw [← h.1]; exact hj
  have hsz : 0 < u.size := by
    rcases Nat.eq_zero_or_pos u.size with h0 | h0
    · rw [h0] at hlt; simp at hlt
    · exact h0
  have hk : j / u.size < l.length := (Nat.div_lt_iff_lt_mul hsz).2 hlt
  refine RepT.cell u (h.2 _ hk) _ ?_
  rw [List.mem_iff_getElem?]
  refine ⟨j % u.size, ?_⟩
  rw [List.getElem?_take_of_lt (Nat.mod_lt _ hsz), List.getElem?_drop]
  have : j / u.size * u.size + j % u.size = j := by
    have := Nat.div_add_mod j u.size
    rw [Nat.mul_comm] at this
    exact this
  rw [this, List.getElem?_eq_getElem hj]

/-- where a slice value's elements are read from -/
def Reads (w : World) (sz n : Nat) (v : Value) (F : List Value) : Prop := ∀ (P : Program) (w' : World), w'.heap = w.heap → ∀ k, k ≤ n → (Builtin.firstCells sz k v).run P w' = .ok (F.take (k * sz)).toArray w'

theorem reads_at {w : World} {u : Ty} {n : Nat} {ad : Option Addr} {cap : Nat} {F : List Value} (hF : F.length = n * u.size) (hr : n ≠ 0 → ∃ b o, ad = some ⟨b, o, none⟩ ∧ ∀ j v, F[j]? = some v → w.cell? ⟨b, o + j, none⟩ = some v) :
    Reads w u.size n (.slice ad n cap) F := by
  intro P w' hw k hk
  by_cases h0 : n = 0
  · subst h0
    have : k = 0 := by omega
    subst this
    cases ad <;> simp [Builtin.firstCells, loadCells, loadCellsFrom]
  · obtain ⟨b, o, rfl, hrow⟩ := hr h0
    have hl := run_loadCells_list (P := P) w' ⟨b, o, none⟩ (F.take (k * u.size)) (fun j v hj => by
      rw [addr_add, cell?_heap _ _ (show w'.heap[b]? = w.heap[b]? by rw [hw])]
      refine hrow j v ?_
      rcases Nat.lt_or_ge j (k * u.size) with hlt | hge
      · rwa [List.getElem?_take_of_lt hlt] at hj
      · rw [List.getElem?_take_eq_none hge] at hj; cases hj)
    have hle : k * u.size ≤ n * u.size := Nat.mul_le_mul_right _ hk
    rw [List.length_take, hF, Nat.min_eq_left hle] at hl
    simp [Builtin.firstCells, hl]

def SeqOK (R : RC) (w : World) (v : Value) : Option ((t : Ty) × List (Val t)) → Prop
  | none => v = .slice none 0 0
  | some r => ∃ ad cap F, v = .slice ad r.2.length cap ∧ Flat R r.1 r.2 F ∧ Reads w r.1.size r.2.length v F

/-- a slice value's elements, read: where its cells lie -/
theorem sliceSeq_sound (h : Sim c I L s a w) {x : AV} {v : Value} (hx : Rep (c.rc I L w) L x v) {r : Option ((t : Ty) × List (Val t))} {rs : List Nat} (e : (sliceSeq x).run call s.rd = some (r, rs)) :
    SeqOK (c.rc I L w) w v r := by
  have fin : ∀ {u : Ty} {l : List (Val u)} {ad : Option Addr} {cap : Nat}, v = .slice ad l.length cap → (l.length ≠ 0 → ∃ b o, ad = some ⟨b, o, none⟩ ∧ ∀ i, i < l.length → ∃ d, RepT (c.rc I L w) u (l.getD i (dfl u)) d ∧ At (c.rc I L w) d b (o + i * u.size)) →
      SeqOK (c.rc I L w) w v (some ⟨u, l⟩) := by
    intro u l ad cap hv hr
    by_cases h0 : l.length = 0
    · have : l = [] := List.length_eq_zero_iff.1 h0
      subst this
      refine ⟨ad, cap, [], hv, Flat.nil _ u, ?_⟩
      subst hv
      exact reads_at (by simp) (fun hn => absurd rfl hn)
    · obtain ⟨b, o, rfl, hrow⟩ := hr h0
      obtain ⟨F, hF, hat⟩ := flat_of_rows hrow
      refine ⟨_, cap, F, hv, hF, ?_⟩
      subst hv
      exact reads_at hF.1 fun _ => ⟨b, o, rfl, hat⟩
  unfold sliceSeq at e
  split at e
  · rename_i t l
    obtain ⟨rfl, rfl⟩ := HM.run_ret e
    simp only [Rep] at hx
    obtain ⟨ad, cap, hs, hcap, hrow, _⟩ := hx
    simp only [List.cons.injEq, and_true] at hs
    exact fin hs fun hne => by
      obtain ⟨b, o, ha, hb, hi⟩ := hrow hne
      exact ⟨b, o, ha, hi⟩
  · rename_i t l
    obtain ⟨rfl, rfl⟩ := HM.run_ret e
    simp only [Rep] at hx
    obtain ⟨⟨ad, cap, hs, hcap, hrow, _⟩, _⟩ := hx
    simp only [List.cons.injEq, and_true] at hs
    exact fin hs fun hne => by
      obtain ⟨b, o, ha, hb, hi⟩ := hrow hne
      exact ⟨b, o, ha, hi⟩
  · obtain ⟨rfl, rfl⟩ := HM.run_ret e
    simp only [Rep] at hx
    exact hx
  · rename_i u0 id i n g
    obtain ⟨b, l', hb, e', rfl⟩ := HM.run_rd e
    clear e
    split at e'
    · rename_i hg
      split at e'
      · rename_i t l hct
        obtain ⟨hle, e2⟩ := HM.run_chk e'
        obtain ⟨rfl, rfl⟩ := HM.run_ret e2
        have hle := of_decide_eq_true hle
        have hlen : ((l.drop i).take n).length = n := by simp; omega
        simp only [Rep] at hx
        obtain ⟨p, hp, hw', hge, ad, cap, hs, hcap, hsome, hcur⟩ := hx
        obtain ⟨⟨hpg, hk⟩, hf⟩ := h.get hp hb
        rw [hct] at hk
        refine fin (l := (l.drop i).take n) (by rw [hlen]; exact hs) fun hne => ?_
        rw [hlen] at hne
        rcases hk with ⟨_, rfl, _⟩ | ⟨hv, hpw, cs, T, hh, hps, hsize, hrow⟩
        · simp at hle; omega
        · rcases hcur (by rw [hpg, hg]) with h0 | ⟨_, had, _⟩
          · omega
          · refine ⟨p.b, _, had, fun j hj => ?_⟩
            rw [hlen] at hj
            rw [getD_cut l i n j _ hj]
            obtain ⟨d, hd, hat⟩ := hrow (i + j) (by omega)
            refine ⟨d, hd, ?_⟩
            rw [← hpw, Nat.add_assoc, ← Nat.add_mul]
            exact hat
      · cases e'
    · cases e'
  · cases e

end

/-- the builtin, where a new row is made -/
theorem run_append_new {P : Program} (w : World) {t ty e : TypeId} {i : TypeInfo} {z : Value} {n cap m : Nat} {s x : Value} {F G : List Value} {sz : Nat} (ht : P.underlying t = some (.slice e)) (hi : P.info? e = some i) (hz : i.zero = some z) (hsz : i.size = sz)
    {ad ad' : Option Addr} {cap' : Nat} (hs : s = .slice ad n cap) (hx : x = .slice ad' m cap') (hF : Reads w sz n s F) (hFl : F.length = n * sz) (hG : Reads w sz m x G) (hGl : G.length = m * sz) (hg : cap < n + m) (hb : (n + m) * (i.bytes + 1) ≤ 1099511627776) :
    ∃ nc w', (Builtin.append_ #[t, t] ty #[s, x]).run P w = .ok (.slice (some ⟨w.heap.size, 0, none⟩) (n + m) nc) w' ∧ n + m ≤ nc ∧ w'.heap = w.heap.push (.cells (F.toArray ++ G.toArray ++ Builtin.zeroCells z.cells (nc - (n + m))) e (0, 0)) ∧ IO w w' := by
  have hnm : (n + m) * (i.bytes + 1) = (n + m) * i.bytes + (n + m) := by rw [Nat.mul_add, Nat.mul_one]
  have h63' : ¬ (9223372036854775807 < ((n : Int) + (m : Int))) := by omega
  have hfit := growslice_fits (need := n + m) (old := cap) (bytes := i.bytes) hg (by omega)
  have h48' : ¬ (281474976710656 < Builtin.nextslicecap (n + m) cap * i.bytes) := by omega
  have hn : ¬ (n + m ≤ cap) := by omega
  have hf := hF P w.drew rfl n (Nat.le_refl _)
  have hg2 := hG P w.drew rfl m (Nat.le_refl _)
  rw [← hFl, List.take_length] at hf
  rw [← hGl, List.take_length] at hg2
  refine ⟨grownCap w (n + m) cap e, w.drew.alloc (.cells (F.toArray ++ G.toArray ++ Builtin.zeroCells z.cells (grownCap w (n + m) cap e - (n + m))) e), ?_, grownCap_ge w (n + m) cap e, rfl, rfl, rfl, rfl⟩
  subst hs hx hsz
  simp [Builtin.append_, run_underlying ht, sizeOf, typeInfo, zeroValue, hi, hz, Builtin.lenOf, hn, h63', h48', Question.forced, hf, hg2, newRow, grownCap]
  congr 2
  apply Array.ext'
  simp [List.append_assoc]

/-- the builtin, where there is room -/
theorem run_append_in {P : Program} (w : World) {t ty e : TypeId} {i : TypeInfo} {n cap m : Nat} {s x : Value} {G : List Value} {sz : Nat} (ht : P.underlying t = some (.slice e)) (hi : P.info? e = some i) (hsz : i.size = sz)
    {ad ad' : Option Addr} {cap' : Nat} (hs : s = .slice ad n cap) (hx : x = .slice ad' m cap') (hG : Reads w sz m x G) (hGl : G.length = m * sz) (hg : n + m ≤ cap) {w' : World}
    (hst : ∀ q, ad = some q → (storeCells (q.add (n * sz)) G).run P w = .ok () w') (hnone : ad = none → w' = w) :
    (Builtin.append_ #[t, t] ty #[s, x]).run P w = .ok (.slice ad (n + m) cap) w' := by
  have hg2 := hG P w rfl m (Nat.le_refl _)
  rw [← hGl, List.take_length] at hg2
  subst hs hx hsz
  cases ad with
  | none => rw [hnone rfl]; simp [Builtin.append_, run_underlying ht, sizeOf, typeInfo, hi, Builtin.lenOf, hg, hg2]
  | some q => simp [Builtin.append_, run_underlying ht, sizeOf, typeInfo, hi, Builtin.lenOf, hg, hg2, hst q rfl]

section
variable {c : Ctx} {I : Nat → Prop} {L : Ref → Option Pl} {s : St} {a : Act} {w : World} {call : CallF}

theorem OpOK.both {o : Oper} {x : AV} {v : Value} {wr : List (Ref × Blk)} {w' : World} (e : (execOp a.eval o).run c.P w = .ok (.value v) w') {I' : Nat → Prop} {L' : Ref → Option Pl}
    (hs : Sim c I' L' ⟨s.env, putAll s.heap wr⟩ a w') (hx : Rep (c.rc I' L' w') L' x v) : OpOK c s a w o { x := x, wr := wr } := by
  intro K Q hK
  unfold Oper.wp
  rw [e, Oper.upon_value]
  exact hK _ _ _ _ (hs.put o.dst hx)

/-- a slice of the call's own, which is as it stands -/
theorem lsl_base (h : Sim c I L s a w) {t : Ty} {id : Ref} {i n g : Nat} {v : Value} (hx : Rep (c.rc I L w) L (.lsl t id i n g) v) {b : Blk} (hb : s.rd id = some b) (hg : g = b.gen) {u : Ty} {l : List (Val u)} (hct : b.ct = .sl u l) (hle : i + n ≤ l.length) :
    ∃ p ad cap F, L id = some p ∧ p.w = t.size ∧ p.gen = g ∧ (b.frozen = false → p.virt = false → ¬ I p.b) ∧ v = .slice ad n cap ∧ n ≤ cap ∧ Flat (c.rc I L w) u ((l.drop i).take n) F ∧ Reads w u.size n v F ∧
      (cap = 0 ∨ (p.virt = false ∧ p.w = u.size ∧ ad = some ⟨p.b, p.o + i * p.w, none⟩ ∧ p.o + (i + cap) * p.w ≤ p.size ∧ ∃ cs T, w.heap[p.b]? = some (.cells cs T (0, 0)) ∧ cs.size = p.size ∧ ∀ j v, F[j]? = some v → cs[p.o + i * p.w + j]? = some v)) := by
  have hlen : ((l.drop i).take n).length = n := by simp; omega
  simp only [Rep] at hx
  obtain ⟨p, hp, hw', hge, ad, cap, hs, hcap, hsome, hcur⟩ := hx
  obtain ⟨⟨hpg, hk⟩, hf⟩ := h.get hp hb
  rw [hct] at hk
  have hcur := hcur (by rw [hpg, hg])
  by_cases h0 : cap = 0
  · have hn : n = 0 := by omega
    subst hn
    refine ⟨p, ad, cap, [], hp, hw', by rw [hpg, hg], hf, hs, hcap, by simpa using Flat.nil _ u, ?_, .inl h0⟩
    rw [hs]
    exact reads_at (by simp) (fun hn => absurd rfl hn)
  · rcases hcur with hc | ⟨hv, had, hroom⟩
    · exact absurd hc h0
    rcases hk with ⟨hv', _⟩ | ⟨_, hpw, cs, T, hh, hps, hsize, hrow⟩
    · rw [hv] at hv'; cases hv'
    · obtain ⟨F, hF, hat⟩ := flat_of_rows (R := c.rc I L w) (u := u) (l := (l.drop i).take n) (b := p.b) (o := p.o + i * p.w) fun j hj => by
        rw [hlen] at hj
        rw [getD_cut l i n j _ hj]
        obtain ⟨d, hd, hat⟩ := hrow (i + j) (by omega)
        refine ⟨d, hd, ?_⟩
        rw [← hpw, Nat.add_assoc, ← Nat.add_mul]
        exact hat
      refine ⟨p, ad, cap, F, hp, hw', by rw [hpg, hg], hf, hs, hcap, hF, ?_, .inr ⟨hv, hpw, had, hroom, cs, T, hh, hps, fun j v hj => ?_⟩⟩
      · rw [hs]
        exact reads_at (by rw [hF.1, hlen]) fun _ => ⟨_, _, had, hat⟩
      · rw [← cell?_cells hh]
        exact hat j v hj

theorem castL_self {u : Ty} (y : List (Val u)) : castL rfl y = y := rfl

theorem append_in {l m : List Value} {cs : Array Value} {o j : Nat} {v : Value} (hl : ∀ j v, l[j]? = some v → cs[o + j]? = some v) (hs : o + l.length + m.length ≤ cs.size) (hj : (l ++ m)[j]? = some v) : (wrAt cs (o + l.length + 0) m)[o + j]? = some v := by
  rcases Nat.lt_or_ge j l.length with hlt | hge
  · rw [List.getElem?_append_left hlt] at hj
    rw [wrAt_out _ _ _ _ (.inl (by omega))]
    exact hl j v hj
  · rw [List.getElem?_append_right hge] at hj
    have hjlt : j - l.length < m.length := by
      rcases Nat.lt_or_ge (j - l.length) m.length with hl | hl
      · exact hl
      · rw [List.getElem?_eq_none hl] at hj; cases hj
    have := wrAt_in m cs (o + l.length + 0) (j - l.length) hjlt (by omega)
    rw [show o + l.length + 0 + (j - l.length) = o + j from by omega] at this
    rw [this]
    exact hj

/-- a slice of the call's own, appended to -/
theorem append_own (h : Sim c I L s a w) {o : Oper} {t ty et : TypeId} {t0 : Ty} {id i n g : Nat} {vx vy : Value} (hvx : Rep (c.rc I L w) L (.lsl t0 (.l id) i n g) vx) {b : Blk} (hbb : s.rd (.l id) = some b) (hg : g = b.gen) (hz : b.frozen = false)
    {u : Ty} (ht0 : t0.size = u.size) {l : List (Val u)} (hct : b.ct = .sl u l) (hl : i + n = l.length) {y' : List (Val u)} {ii : TypeInfo} {z : Value} (hT0u : c.P.underlying t = some (.slice et)) (hTinfo : c.P.info? et = some ii) (hTzero : ii.zero = some z) (hsize : ii.size = u.size) (hzs' : z.cells.size = u.size)
    (hm : (n + y'.length) * (ii.bytes + 1) ≤ 1099511627776) {ady : Option Addr} {capy : Nat} {G : List Value} (hy : vy = .slice ady y'.length capy) (hG : Flat (c.rc I L w) u y' G) (hGr : Reads w u.size y'.length vy G)
    (exec : ∀ {v : Value} {w' : World}, (Builtin.append_ #[t, t] ty #[vx, vy]).run c.P w = .ok v w' → (execOp a.eval o).run c.P w = .ok (.value v) w') :
    OpOK c s a w o { x := .lsl u (.l id) 0 (n + y'.length) (g + 1), wr := [(.l id, { b with ct := .sl u ((l.drop i).take n ++ y'), gen := g + 1 })] } := by
  obtain ⟨p, ad, cap, F, hp, hpt, hpg, hf, hv, hcap, hF, hFr, hplace⟩ := lsl_base h hvx hbb hg hct (Nat.le_of_eq hl)
  have hb0 := rdv_l.1 (show rdv s.heap (.l id) = some b from hbb)
  have hid : id < s.heap.length := (List.getElem?_eq_some_iff.1 hb0).1
  have hnt : ∀ x, s.heap[id]? = some (some x) → x.isTab = false := fun x hx => by rw [hb0] at hx; injection hx with hx; injection hx with hx; subst hx; simp [Blk.isTab, hct]
  have hFl : F.length = n * u.size := by
    rw [hF.1]
    congr 1
    simp; omega
  have hpu : p.w = u.size := by rw [hpt, ht0]
  have hFG := hF.append hG
  have hll : ((l.drop i).take n ++ y').length = n + y'.length := by simp; omega
  by_cases hgrow : cap < n + y'.length
  · obtain ⟨nc, w', hr, hnc, hheap, hio⟩ := run_append_new (P := c.P) w (ty := ty) hT0u hTinfo hTzero hsize hv hy hFr hFl hGr hG.1 hgrow hm
    obtain ⟨cs, hcs⟩ : ∃ cs, cs = F.toArray ++ G.toArray ++ Builtin.zeroCells z.cells (nc - (n + y'.length)) := ⟨_, rfl⟩
    rw [← hcs] at hheap
    have hcsz : cs.size = nc * u.size := by
      rw [hcs]
      simp only [Array.size_append, List.size_toArray, size_zeroCells, hFl, hG.1, hzs', ← Nat.add_mul]
      congr 1
      omega
    refine OpOK.both (exec hr) (I' := I) (L' := addL L (.l id) ⟨w.heap.size, 0, u.size, g + 1, cs.size, false⟩) ?_ ?_
    · simp only [putAll, putH]
      refine h.upd hid hnt rfl (fun q hq => ?_) (fun _ => ⟨by rw [hheap]; simp, .inl (Nat.le_refl _)⟩) (by rw [hheap]; simp) hio (fun b hb _ => heap_push_old hheap b hb) ?_ ?_
      · rw [hp] at hq
        injection hq with hq
        subst hq
        exact ⟨hpu.symm, .inr (by rw [hpg]; exact Nat.lt_succ_self _)⟩
      · intro hr' hl'
        refine ⟨rfl, .inr ⟨rfl, rfl, cs, et, heap_push_new hheap, rfl, ?_, ?_⟩⟩
        · rw [hll, hcsz, Nat.zero_add]
          exact Nat.mul_le_mul_right _ hnc
        · refine (hFG.mono hr').rows fun j v hj => ?_
          show World.cell? _ _ = _
          rw [cell?_cells (heap_push_new hheap), hcs, Nat.zero_add, ← Array.getElem?_toList]
          simp only [Array.toList_append]
          exact List.getElem?_append_left (List.getElem?_eq_some_iff.1 hj).1 ▸ hj
      · intro _ _ hI
        have := h.imm _ hI
        simp only at this
        omega
    · simp only [Rep]
      refine ⟨⟨w.heap.size, 0, u.size, g + 1, cs.size, false⟩, by simp [addL], rfl, Nat.le_refl _, some ⟨w.heap.size, 0, none⟩, nc, rfl, hnc, fun _ => rfl, fun _ => .inr ⟨rfl, by simp, ?_⟩⟩
      simp only [Nat.zero_add]
      rw [hcsz]
      exact Nat.le_refl _
  · by_cases h0 : cap = 0
    · have hy0 : y'.length = 0 := by omega
      have hn0 : n = 0 := by omega
      have hG0 : G = [] := List.length_eq_zero_iff.1 (by rw [hG.1, hy0, Nat.zero_mul])
      have hr := run_append_in (P := c.P) w (ty := ty) (w' := w) hT0u hTinfo hsize hv hy hGr hG.1 (by omega) (fun q _ => by rw [hG0]; simp [storeCells]) (fun _ => rfl)
      refine OpOK.both (exec hr) (I' := I) (L' := addL L (.l id) ⟨p.b, p.o, u.size, g + 1, p.size, true⟩) ?_ ?_
      · simp only [putAll, putH]
        refine h.upd hid hnt rfl (fun q hq => ?_) (fun hv => by cases hv) (Nat.le_refl _) (IO.refl w) (fun _ _ _ => rfl) ?_ (fun _ hv => by cases hv)
        · rw [hp] at hq
          injection hq with hq
          subst hq
          exact ⟨hpu.symm, .inr (by rw [hpg]; exact Nat.lt_succ_self _)⟩
        · intro hr' hl'
          refine ⟨rfl, .inl ⟨rfl, List.length_eq_zero_iff.1 ?_, rfl⟩⟩
          rw [hll]; omega
      · simp only [Rep]
        refine ⟨⟨p.b, p.o, u.size, g + 1, p.size, true⟩, by simp [addL], rfl, Nat.le_refl _, ad, cap, rfl, by omega, fun hne => by omega, fun _ => .inl h0⟩
    · rcases hplace with hc | ⟨hpv, _, had, hroom, cells, T, hh, hps, hat⟩
      · exact absurd hc h0
      have hnI := hf hz hpv
      have hmul : (n + y'.length) * p.w ≤ cap * p.w := Nat.mul_le_mul_right _ (by omega)
      rw [Nat.add_mul] at hmul hroom
      have hGl : G.length = y'.length * p.w := by rw [hG.1, hpu]
      have hFl' : F.length = n * p.w := by rw [hFl, hpu]
      obtain ⟨w', erun, hs, hnew, hoth, hio⟩ := run_storeCells (P := c.P) (o := p.o + i * p.w + F.length) G 0 w cells hh (by rw [hps]; omega) (fun v hv => hG.cell v hv)
      have hr := run_append_in (P := c.P) w (ty := ty) (w' := w') hT0u hTinfo hsize hv hy hGr hG.1 (by omega) (fun q hq => by
        rw [had] at hq
        injection hq with hq
        rw [← hq, addr_add, ← hFl]
        exact erun) (fun hnn => by rw [had] at hnn; cases hnn)
      refine OpOK.both (exec hr) (I' := I) (L' := addL L (.l id) { p with o := p.o + i * p.w, gen := g + 1 }) ?_ ?_
      · simp only [putAll, putH]
        refine h.upd hid hnt rfl (fun q hq => ?_) (fun _ => ⟨by rw [hs]; exact (h.own _ p hp hpv).2, .inr ⟨p, hp, hpv, rfl⟩⟩) (by rw [hs]; exact Nat.le_refl _) hio ?_ ?_ (fun _ _ => hnI)
        · rw [hp] at hq
          injection hq with hq
          subst hq
          exact ⟨rfl, .inr (by rw [hpg]; exact Nat.lt_succ_self _)⟩
        · intro k _ hk
          by_cases e : k = p.b
          · exact absurd (hk p hp hpv e) (by rw [e]; exact hnI)
          · exact hoth k e
        · intro hr' hl'
          refine ⟨rfl, .inr ⟨hpv, hpu, _, T, hnew, by rw [wrAt_size]; exact hps, ?_, ?_⟩⟩
          · rw [hll]
            simp only
            rw [Nat.add_mul]
            omega
          · simp only [hpu]
            refine (hFG.mono hr').rows fun j v hj => ?_
            show World.cell? _ _ = _
            rw [cell?_cells hnew, ← hpu]
            exact append_in hat (by rw [hps]; omega) hj
      · simp only [Rep]
        refine ⟨{ p with o := p.o + i * p.w, gen := g + 1 }, by simp [addL], hpu, Nat.le_refl _, ad, cap, rfl, by omega, fun _ => by rw [had]; rfl, fun _ => .inr ⟨hpv, by simp [had], ?_⟩⟩
        simp only [Nat.zero_add]
        omega

theorem op_append (h : Sim c I L s a w) (hE : EnvOK c.P c.E) {cl : Call} {o : Oper} (ho : o.op = .call cl) (hb : cl.callee = .builtin .append) {newId : Nat} (hn : s.heap[newId]? = some none) {δ : Dl} {rs : List Nat}
    (e : (aop c.E (aeval s.env) newId o.op).run call s.rd = some (δ, rs)) : OpOK c s a w o δ := by
  have ho' := ho
  rw [ho] at e
  simp only [aop, hb] at e
  have hargs := h.evalL cl.args.toList
  generalize hts : cl.argTypes.toList = ts at e
  generalize has : cl.args.toList.map (aeval s.env) = as at e hargs
  unfold builtinA at e
  split at e <;> try (rename_i hbb; cases hbb; done)
  · rename_i t t' x y _
    split at e
    · rename_i htt
      subst htt
      simp only [RepL] at hargs
      obtain ⟨vx, tl, hvs, hvx, vy, tl2, rfl, hvy, rfl⟩ := hargs
      have hts' : cl.argTypes = #[t, t] := by rw [← Array.toArray_toList (xs := cl.argTypes), hts]
      have has' : cl.args.map a.eval = #[vx, vy] := by
        apply Array.ext'
        rw [Array.toList_map, hvs]
      have exec : ∀ {v : Value} {w' : World}, (Builtin.append_ #[t, t] o.type #[vx, vy]).run c.P w = .ok v w' → (execOp a.eval o).run c.P w = .ok (.value v) w' := by
        intro v w' hr
        have hrun : (builtin .append cl.argTypes o.type (cl.args.map fun | .const _ => true | _ => false) (cl.args.map a.eval)).run c.P w = .ok (.value v) w' := by
          rw [hts', has']
          simp only [builtin, Sem.run_bind, hr]
          rfl
        simp only [execOp, ho', resolve, hb, invoke]
        exact hrun
      unfold appendA at e
      split at e
      · cases e
      · rename_i ti hel
        unfold elemT at hel
        split at hel
        · rename_i si hty
          obtain ⟨d, i0, z0, hT0⟩ := hE.ty _ si hty
          have hd := hT0.desc
          split at hel
          · rename_i et htd
            rw [htd] at hd
            obtain rfl := descOf_slice hd
            obtain ⟨d, ii, z, hT⟩ := hE.ty _ ti hel
            have hzs : z.cells.size = ti.size := by
              have := (hT.zeroL (c.rc I L w) L).length
              rw [hT.len] at this
              simpa using this
            obtain ⟨r, r1, r2, e1, e2, rfl⟩ := HM.run_bind e
            have hseq := sliceSeq_sound h hvy e1
            cases r with
            | none =>
              simp only [SeqOK] at hseq
              subst hseq
              simp only at e2
              split at e2
              · rename_i u id i n g
                obtain ⟨rfl, rfl⟩ := HM.run_ret e2
                have hvx' := hvx
                simp only [Rep] at hvx'
                obtain ⟨p, hp, hw', hge, ad, cap, rfl, hcap, _⟩ := hvx'
                refine OpOK.value h (exec (run_append_in w (G := []) hT0.u hT.info hT.size rfl rfl (fun P w' _ k hk => ?_) (by simp) (by omega) (fun q _ => ?_) (fun _ => rfl))) hvx
                · have : k = 0 := by omega
                  subst this
                  simp [Builtin.firstCells]
                · simp [storeCells]
              · obtain ⟨rfl, rfl⟩ := HM.run_ret e2
                simp only [Rep] at hvx
                subst hvx
                refine OpOK.value h (v := .slice none 0 0) (exec (run_append_in w (G := []) hT0.u hT.info hT.size rfl rfl (fun P w' _ k hk => ?_) (by simp) (by omega) (fun q _ => ?_) (fun _ => rfl))) (by simp [Rep])
                · have : k = 0 := by omega
                  subst this
                  simp [Builtin.firstCells]
                · simp [storeCells]
              · cases e2
            | some r =>
              obtain ⟨u, y'⟩ := r
              obtain ⟨ady, capy, G, hy, hG, hGr⟩ := hseq
              simp only at hy hG hGr
              simp only at e2
              split at e2
              · cases e2
              · rename_i hus
                have hus : u.size = ti.size := by simpa using hus
                have hzs' : z.cells.size = u.size := by rw [hzs, hus]
                have hby : ii.bytes = ti.bytes := hT.bytes
                have hsize : ii.size = u.size := by rw [hT.size, hus]
                split at e2
                · rename_i t0 id i n g
                  obtain ⟨b, l', hbb, e3, rfl⟩ := HM.run_rd e2
                  split at e3
                  · rename_i hcond
                    obtain ⟨hg, hz, ht0⟩ := hcond
                    split at e3
                    · rename_i u' l hct
                      split at e3
                      · rename_i huu
                        subst huu
                        obtain ⟨hl, e4⟩ := HM.run_chk e3
                        obtain ⟨hm, e5⟩ := HM.run_chk e4
                        obtain ⟨rfl, rfl⟩ := HM.run_ret e5
                        have hl := of_decide_eq_true hl
                        have hm := of_decide_eq_true hm
                        have hmost : most = 1099511627776 := rfl
                        rw [hmost] at hm
                        rw [castL_self]
                        exact append_own h hvx hbb hg hz ht0 hct hl hT0.u hT.info hT.zero hsize hzs' (by rw [hby]; exact hm) hy hG hGr exec
                      · cases e3
                    · cases e3
                  · cases e3
                · rename_i t0 k io q i n g
                  obtain ⟨b, l', hbb, e3, rfl⟩ := HM.run_rd e2
                  obtain ⟨tb, l'', htb, e4, rfl⟩ := HM.run_rd e3
                  split at e4
                  · rename_i hcond
                    obtain ⟨hg, ht0⟩ := hcond
                    split at e4
                    · rename_i u' l cs rows st gs hct htct
                      split at e4
                      · rename_i huu
                        subst huu
                        obtain ⟨hl, e5⟩ := HM.run_chk e4
                        obtain ⟨hm, e6⟩ := HM.run_chk e5
                        obtain ⟨rfl, rfl⟩ := HM.run_ret e6
                        have hl := of_decide_eq_true hl
                        have hm := of_decide_eq_true hm
                        have hmost : most = 1099511627776 := rfl
                        rw [hmost] at hm
                        rw [castL_self]
                        have hvx' := hvx
                        simp only [Rep] at hvx'
                        obtain ⟨p, hp, hpw, hge, ad, cap, hs, hcap, hsome, hcur⟩ := hvx'
                        obtain ⟨⟨hpg, _⟩, _⟩ := h.get hp hbb
                        have hd := h.detach hp hbb hct htb htct hn
                        have hvd : Rep (c.rc I (addL (addL L (.o k io q) { p with gen := p.gen + 1, virt := true }) (.l newId) { p with gen := 0 }) w) (addL (addL L (.o k io q) { p with gen := p.gen + 1, virt := true }) (.l newId) { p with gen := 0 }) (.lsl t0 (.l newId) i n 0) vx := by
                          simp only [Rep]
                          exact ⟨{ p with gen := 0 }, by simp [addL], hpw, Nat.le_refl _, ad, cap, hs, hcap, hsome, fun _ => hcur (by rw [hpg, hg])⟩
                        have hql : q ≠ 0 := by
                          intro e
                          subst e
                          obtain ⟨_, _, _, _, _, _, _, hv⟩ := rdH_o hbb
                          simp only [viewO, Option.some.injEq] at hv
                          subst hv
                          cases hct
                        have hL' : LLe L (addL (addL L (.o k io q) { p with gen := p.gen + 1, virt := true }) (.l newId) { p with gen := 0 }) := by
                          refine LLe.trans (addL_le (id := .o k io q) (p := { p with gen := p.gen + 1, virt := true }) (fun x hx => ?_) (fun hb => ?_)) (addL_le (fun x hx => ?_) (fun hb => hb))
                          · rw [hp] at hx
                            injection hx with hx
                            subst hx
                            exact ⟨rfl, Nat.lt_succ_self _⟩
                          · cases q with
                            | zero => exact hql rfl
                            | succ q => exact hb
                          · have := free_L h hn
                            simp only [addL] at hx
                            rw [if_neg (by simp), this] at hx
                            cases hx
                        have hkey := append_own (b := { ct := .sl u l, gen := 0, frozen := false }) hd hvd (rdv_l.2 (List.getElem?_set_self (by simpa using lt_of_free hn))) rfl rfl ht0 rfl hl hT0.u hT.info hT.zero hsize hzs' (by rw [hby]; exact hm) hy (hG.mono (rle_of_heap (fun _ hb => hb) (fun _ _ => rfl) hL')) hGr exec
                        intro K Q hK
                        refine hkey K Q fun I' L' a' w' hs' => hK I' L' a' w' ?_
                        have htb0 := rdv_l.1 (show rdv s.heap (.l k) = some tb from htb)
                        simp only [St.app, putAll, putH] at hs' ⊢
                        rw [List.set_set] at hs'
                        exact hs'
                      · cases e4
                    · cases e4
                  · cases e4
                · obtain ⟨hm, e5⟩ := HM.run_chk e2
                  obtain ⟨rfl, rfl⟩ := HM.run_ret e5
                  have hm := of_decide_eq_true hm
                  have hmost : most = 1099511627776 := rfl
                  rw [hmost] at hm
                  simp only [Rep] at hvx
                  have hFr : Reads w u.size 0 vx [] := by rw [hvx]; exact reads_at (by simp) (fun hn => absurd rfl hn)
                  by_cases hy0 : y'.length = 0
                  · have hG0 : G = [] := List.length_eq_zero_iff.1 (by rw [hG.1, hy0, Nat.zero_mul])
                    have hr := run_append_in (P := c.P) w (ty := o.type) (w' := w) hT0.u hT.info hsize hvx hy hGr hG.1 (by omega) (fun q hq => by cases hq) (fun _ => rfl)
                    have hL := free_L h hn
                    refine OpOK.both (exec hr) (I' := I) (L' := addL L (.l newId) ⟨0, 0, u.size, 0, 0, true⟩) ?_ ?_
                    · simp only [putAll, putH]
                      refine h.upd ?_ (notab_free hn) rfl (fun q hq => by rw [hL] at hq; cases hq) (fun hv => by cases hv) (Nat.le_refl _) (IO.refl w) (fun _ _ _ => rfl) ?_ (fun _ hv => by cases hv)
                      · rcases Nat.lt_or_ge newId s.heap.length with hlt | hge
                        · exact hlt
                        · rw [List.getElem?_eq_none hge] at hn; cases hn
                      · intro _ _
                        exact ⟨rfl, .inl ⟨rfl, List.length_eq_zero_iff.1 hy0, rfl⟩⟩
                    · simp only [Rep]
                      exact ⟨⟨0, 0, u.size, 0, 0, true⟩, by simp [addL], rfl, Nat.le_refl _, none, 0, by rw [hy0], by omega, fun hne => by omega, fun _ => .inl rfl⟩
                  · obtain ⟨nc, w', hr, hnc, hheap, hio⟩ := run_append_new (P := c.P) w (ty := o.type) hT0.u hT.info hT.zero hsize hvx hy hFr (by simp) hGr hG.1 (by omega) (by rw [hby, Nat.zero_add]; exact hm)
                    obtain ⟨cs, hcs⟩ : ∃ cs, cs = ([] : List Value).toArray ++ G.toArray ++ Builtin.zeroCells z.cells (nc - (0 + y'.length)) := ⟨_, rfl⟩
                    rw [← hcs] at hheap
                    rw [Nat.zero_add] at hr hnc hcs
                    have hcsz : cs.size = nc * u.size := by
                      rw [hcs]
                      simp only [Array.size_append, List.size_toArray, size_zeroCells, hG.1, hzs', List.length_nil, Nat.zero_add, ← Nat.add_mul]
                      congr 1
                      omega
                    refine OpOK.new h hn rfl (exec hr) hheap hio (p := ⟨w.heap.size, 0, u.size, 0, cs.size, false⟩) ⟨rfl, rfl⟩ ?_ ?_
                    · intro hr' hl'
                      refine ⟨rfl, .inr ⟨rfl, rfl, cs, et, heap_push_new hheap, rfl, ?_, ?_⟩⟩
                      · rw [hcsz, Nat.zero_add]
                        exact Nat.mul_le_mul_right _ hnc
                      · refine (hG.mono hr').rows fun j v hj => ?_
                        show World.cell? _ _ = _
                        rw [cell?_cells (heap_push_new hheap), hcs, Nat.zero_add, ← Array.getElem?_toList]
                        simp only [Array.toList_append, List.nil_append]
                        exact List.getElem?_append_left (List.getElem?_eq_some_iff.1 hj).1 ▸ hj
                    · simp only [Rep]
                      refine ⟨⟨w.heap.size, 0, u.size, 0, cs.size, false⟩, by simp [addL], rfl, Nat.le_refl _, some ⟨w.heap.size, 0, none⟩, nc, rfl, hnc, fun _ => rfl, fun _ => .inr ⟨rfl, by simp, ?_⟩⟩
                      simp only [Nat.zero_add]
                      rw [hcsz]
                      exact Nat.le_refl _
                · cases e2
          · cases hel
        · cases hel
    · cases e
  · cases e

end
end Go.Eng
