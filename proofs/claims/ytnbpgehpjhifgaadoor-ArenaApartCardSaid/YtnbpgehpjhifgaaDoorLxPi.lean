/-
  Texts of the proof, one behind the other.
-/
import Derived.Test.YtnbpgehpjhifgaaDoorLxPh

/-
  The law ArenaApart: what holds from one thing to the next.
-/
namespace Go.Proofs.YtnbpgehpjhifgaaDoor.Lx
open Go Go.Eng Go.Proofs Go.Proofs.LxArena

/-- what was taken: in which part, where, how much, and the byte that it bears -/
structure Ent where
  id : Nat
  o : Nat
  n : Nat
  v : Nat

def baseOf : Nat → Nat
  | 0 => 0
  | 1 => 150
  | _ => 250
def szOf : Nat → Nat
  | 0 => 150
  | 1 => 100
  | _ => 150

def ptOf (ix : Nat → Nat) (L : Nat → List (Int × Int)) (id : Nat) : Pt := ⟨ix id, id, baseOf id, szOf id, L id⟩
def psOf (ix : Nat → Nat) (L : Nat → List (Int × Int)) : List Pt := [ptOf ix L 0, ptOf ix L 1, ptOf ix L 2]
def upd (L : Nat → List (Int × Int)) (id : Nat) (l : List (Int × Int)) : Nat → List (Int × Int) := fun i => if i = id then l else L i

def ns : List Ent → Nat
  | [] => 0
  | e :: r => e.n + ns r
theorem ns_append : ∀ l m : List Ent, ns (l ++ m) = ns l + ns m
  | [], m => by simp [ns]
  | e :: r, m => by rw [List.cons_append, ns, ns, ns_append r m, Nat.add_assoc]
theorem ns_perm {l m : List Ent} (h : l.Perm m) : ns l = ns m := by
  induction h with
  | nil => rfl
  | cons x _ ih => simp [ns, ih]
  | swap x y l => simp only [ns]; omega
  | trans _ _ ih1 ih2 => rw [ih1, ih2]

structure Inv (b : List Int) (L : Nat → List (Int × Int)) (es : List Ent) : Prop where
  len : b.length = 400
  srt : ∀ id, id < 3 → Srt 0 (L id) (szOf id)
  ent : ∀ e, e ∈ es → e.id < 3 ∧ ((e.o : Int), (e.n : Int)) ∈ L e.id ∧ 1 ≤ e.n ∧ e.n ≤ 30 ∧ 1 ≤ e.v ∧ e.v ≤ 60
  nod : (es.map fun e => (e.id, e.o)).Nodup
  bytes : ∀ e, e ∈ es → ∀ m, m < e.n → b[baseOf e.id + e.o + m]? = some (e.v : Int)
  free : ∀ id, id < 3 → ∀ x : Nat, x < szOf id → (∀ y, y ∈ L id → (x : Int) < y.1 ∨ y.1 + y.2 ≤ x) → b[baseOf id + x]? = some 0
  nzs : nz b = ns es
  tot : tot2 (L 0) + tot2 (L 1) + tot2 (L 2) = ns es

theorem Inv.perm {b : List Int} {L : Nat → List (Int × Int)} {es es' : List Ent} (h : Inv b L es) (hp : es.Perm es') : Inv b L es' :=
  ⟨h.len, h.srt, fun e he => h.ent e (hp.mem_iff.2 he), (hp.map _).nodup_iff.1 h.nod, fun e he => h.bytes e (hp.mem_iff.2 he), h.free, h.nzs.trans (ns_perm hp), by rw [h.tot, ns_perm hp]⟩

/-- parts lie apart -/
theorem parts_apart {i j : Nat} (hi : i < 3) (hj : j < 3) (hne : i ≠ j) : baseOf i + szOf i ≤ baseOf j ∨ baseOf j + szOf j ≤ baseOf i := by
  have h1 : i = 0 ∨ i = 1 ∨ i = 2 := by omega
  have h2 : j = 0 ∨ j = 1 ∨ j = 2 := by omega
  rcases h1 with rfl | rfl | rfl <;> rcases h2 with rfl | rfl | rfl <;> simp [baseOf, szOf] at *
theorem part_in {i : Nat} (hi : i < 3) : baseOf i + szOf i ≤ 400 ∧ szOf i ≤ 150 := by
  have h1 : i = 0 ∨ i = 1 ∨ i = 2 := by omega
  rcases h1 with rfl | rfl | rfl <;> simp [baseOf, szOf]

section
variable {b : List Int} {L : Nat → List (Int × Int)} {es : List Ent}

theorem Inv.ent_in (h : Inv b L es) {e : Ent} (he : e ∈ es) : e.o + e.n ≤ szOf e.id := by
  obtain ⟨h1, h2, _⟩ := h.ent e he
  have := (h.srt e.id h1).mem _ h2
  simp only at this
  omega

theorem tot2_upd {l : List (Int × Int)} {id : Nat} (hid : id < 3) : tot2 (upd L id l 0) + tot2 (upd L id l 1) + tot2 (upd L id l 2) = tot2 (L 0) + tot2 (L 1) + tot2 (L 2) - tot2 (L id) + tot2 l := by
  have h1 : id = 0 ∨ id = 1 ∨ id = 2 := by omega
  rcases h1 with rfl | rfl | rfl <;> simp [upd] <;> omega

theorem Inv.take (h : Inv b L es) {id n v : Nat} (hid : id < 3) (hn : 1 ≤ n) (hn30 : n ≤ 30) (hv : 1 ≤ v) (hv60 : v ≤ 60) {u w : List (Int × Int)} {o : Nat} (hL : L id = u ++ w) (hs : Srt 0 (u ++ ((o : Int), (n : Int)) :: w) (szOf id))
    (hu : ∀ x, x ∈ u → x.1 + x.2 ≤ o) (hw : ∀ x, x ∈ w → (o : Int) + n ≤ x.1) : Inv (putB b (baseOf id + o) (List.replicate n (v : Int))) (upd L id (u ++ ((o : Int), (n : Int)) :: w)) (es ++ [⟨id, o, n, v⟩]) := by
  have hpi := part_in hid
  have hin : (o : Int) + n ≤ szOf id := (Srt.apart hs).2.2.2.1
  have hlen : baseOf id + o + (List.replicate n (v : Int)).length ≤ b.length := by rw [List.length_replicate, h.len]; omega
  have hlen' : (List.replicate n (v : Int)).length = n := List.length_replicate ..
  have hno : ∀ x, x ∈ L id → x.1 + x.2 ≤ o ∨ (o : Int) + n ≤ x.1 := fun x hx => by
    rw [hL] at hx
    rcases List.mem_append.1 hx with hx | hx
    · exact .inl (hu x hx)
    · exact .inr (hw x hx)
  have hseg : (b.drop (baseOf id + o)).take (List.replicate n (v : Int)).length = List.replicate n 0 := by
    rw [hlen']
    refine seg_eq fun m hm => ?_
    rw [Nat.add_assoc]
    refine h.free id hid (o + m) (by omega) fun y hy => ?_
    have := hno y hy
    omega
  refine ⟨by rw [putB_length hlen]; exact h.len, fun i hi => ?_, fun e he => ?_, ?_, fun e he m hm => ?_, fun i hi x hx hf => ?_, ?_, ?_⟩
  · unfold upd
    split
    · rename_i e; subst e; exact hs
    · exact h.srt i hi
  · rcases List.mem_append.1 he with he | he
    · obtain ⟨h1, h2, h3⟩ := h.ent e he
      refine ⟨h1, ?_, h3⟩
      unfold upd
      split
      · rename_i e1
        rw [e1, hL] at h2
        rcases List.mem_append.1 h2 with h2 | h2
        · exact List.mem_append_left _ h2
        · exact List.mem_append_right _ (List.mem_cons_of_mem _ h2)
      · exact h2
    · rw [List.mem_singleton] at he
      subst he
      exact ⟨hid, by simp [upd], hn, hn30, hv, hv60⟩
  · rw [List.map_append, List.nodup_append]
    refine ⟨h.nod, by simp, fun x hx y hy => ?_⟩
    obtain ⟨e, he, rfl⟩ := List.mem_map.1 hx
    simp only [List.map_cons, List.map_nil, List.mem_singleton] at hy
    subst hy
    intro e1
    simp only [Prod.mk.injEq] at e1
    obtain ⟨e1, e2⟩ := e1
    obtain ⟨_, h2, h3, _⟩ := h.ent e he
    rw [e1] at h2
    have := hno _ h2
    simp only at this
    omega
  · rcases List.mem_append.1 he with he | he
    · have hb := h.bytes e he m hm
      rw [putB_out hlen ?_]
      · exact hb
      · rw [hlen']
        obtain ⟨h1, h2, _⟩ := h.ent e he
        have hei := h.ent_in he
        by_cases e1 : e.id = id
        · rw [e1] at h2 ⊢
          have := hno _ h2
          simp only at this
          omega
        · have := parts_apart h1 hid e1
          omega
    · rw [List.mem_singleton] at he
      subst he
      simp only at hm ⊢
      rw [putB_in hlen (by rw [hlen']; exact hm), List.getElem?_replicate, if_pos hm]
  · by_cases e1 : i = id
    · subst e1
      have hf' : ∀ y, y ∈ u ++ ((o : Int), (n : Int)) :: w → (x : Int) < y.1 ∨ y.1 + y.2 ≤ x := by
        simpa [upd] using hf
      have h0 := hf' ((o : Int), (n : Int)) (by simp)
      simp only at h0
      rw [putB_out hlen (by rw [hlen']; omega)]
      refine h.free i hi x hx fun y hy => hf' y ?_
      rw [hL] at hy
      rcases List.mem_append.1 hy with hy | hy
      · exact List.mem_append_left _ hy
      · exact List.mem_append_right _ (List.mem_cons_of_mem _ hy)
    · have := parts_apart hi hid e1
      rw [putB_out hlen (by rw [hlen']; omega)]
      refine h.free i hi x hx fun y hy => hf y ?_
      unfold upd
      rw [if_neg e1]
      exact hy
  · have := putB_nz hlen
    rw [hseg, nz_rep0, nz_rep (by omega), h.nzs] at this
    rw [ns_append]
    simp only [ns]
    omega
  · rw [tot2_upd hid, h.tot, hL, tot2_append, tot2_append, ns_append]
    simp only [tot2, ns]
    omega

theorem Inv.drop (h : Inv b L es) {es' : List Ent} {e : Ent} (hp : es.Perm (es' ++ [e])) {u w : List (Int × Int)} (hL : L e.id = u ++ ((e.o : Int), (e.n : Int)) :: w) :
    Inv (putB b (baseOf e.id + e.o) (List.replicate e.n 0)) (upd L e.id (u ++ w)) es' := by
  have h := h.perm hp
  have hmem : e ∈ es' ++ [e] := by simp
  obtain ⟨hid, _, hn, hn30, hv, hv60⟩ := h.ent e hmem
  have hpi := part_in hid
  have hs := h.srt e.id hid
  rw [hL] at hs
  obtain ⟨g1, g2, g3, g4, g5⟩ := Srt.apart hs
  simp only at g1 g2 g3 g4 g5
  have hlen : baseOf e.id + e.o + (List.replicate e.n (0 : Int)).length ≤ b.length := by rw [List.length_replicate, h.len]; omega
  have hlen' : (List.replicate e.n (0 : Int)).length = e.n := List.length_replicate ..
  have hno : ∀ x, x ∈ u ++ w → x.1 + x.2 ≤ e.o ∨ (e.o : Int) + e.n ≤ x.1 := fun x hx => by
    rcases List.mem_append.1 hx with hx | hx
    · exact .inl (g1 x hx).1
    · exact .inr (g5 x hx).1
  have hnd := h.nod
  rw [List.map_append, List.nodup_append] at hnd
  -- the others' blocks are there
  have hoth : ∀ x, x ∈ es' → x.id < 3 ∧ ((x.o : Int), (x.n : Int)) ∈ upd L e.id (u ++ w) x.id ∧ (x.id = e.id → (x.o : Int) + x.n ≤ e.o ∨ (e.o : Int) + e.n ≤ x.o) := fun x hx => by
    obtain ⟨h1, h2, h3, _⟩ := h.ent x (List.mem_append_left _ hx)
    by_cases e1 : x.id = e.id
    · have hne : x.o ≠ e.o := fun e2 => hnd.2.2 (x.id, x.o) (List.mem_map.2 ⟨x, hx, rfl⟩) (e.id, e.o) (by simp) (by rw [e1, e2])
      rw [e1, hL] at h2
      have h2' : ((x.o : Int), (x.n : Int)) ∈ u ++ w := by
        rcases List.mem_append.1 h2 with h2 | h2
        · exact List.mem_append_left _ h2
        · rcases List.mem_cons.1 h2 with h2 | h2
          · simp only [Prod.mk.injEq] at h2
            omega
          · exact List.mem_append_right _ h2
      refine ⟨h1, by rw [e1]; simpa [upd] using h2', fun _ => ?_⟩
      have := hno _ h2'
      simpa using this
    · refine ⟨h1, by unfold upd; rw [if_neg e1]; exact h2, fun e2 => absurd e2 e1⟩
  refine ⟨by rw [putB_length hlen]; exact h.len, fun i hi => ?_, fun x hx => ?_, hnd.1, fun x hx m hm => ?_, fun i hi x hx hf => ?_, ?_, ?_⟩
  · unfold upd
    split
    · rename_i e1; subst e1; exact hs.del
    · exact h.srt i hi
  · exact ⟨(hoth x hx).1, (hoth x hx).2.1, (h.ent x (List.mem_append_left _ hx)).2.2⟩
  · have hb := h.bytes x (List.mem_append_left _ hx) m hm
    rw [putB_out hlen ?_]
    · exact hb
    · rw [hlen']
      obtain ⟨h1, h2, h3⟩ := hoth x hx
      have hei := h.ent_in (List.mem_append_left [e] hx)
      by_cases e1 : x.id = e.id
      · have := h3 e1
        rw [e1]
        omega
      · have := parts_apart h1 hid e1
        omega
  · by_cases e1 : i = e.id
    · subst e1
      have hf' : ∀ y, y ∈ u ++ w → (x : Int) < y.1 ∨ y.1 + y.2 ≤ x := by
        simpa [upd] using hf
      by_cases hx2 : e.o ≤ x ∧ x < e.o + e.n
      · have hm : x - e.o < e.n := by omega
        have := putB_in hlen (m := x - e.o) (by rw [hlen']; exact hm)
        rw [List.getElem?_replicate, if_pos hm] at this
        rw [← this]
        congr 1
        omega
      · rw [putB_out hlen (by rw [hlen']; omega)]
        refine h.free e.id hi x hx fun y hy => ?_
        rw [hL] at hy
        rcases List.mem_append.1 hy with hy | hy
        · exact hf' y (List.mem_append_left _ hy)
        · rcases List.mem_cons.1 hy with rfl | hy
          · simp only
            omega
          · exact hf' y (List.mem_append_right _ hy)
    · have := parts_apart hi hid e1
      rw [putB_out hlen (by rw [hlen']; omega)]
      refine h.free i hi x hx fun y hy => hf y ?_
      unfold upd
      rw [if_neg e1]
      exact hy
  · have := putB_nz hlen
    rw [hlen', seg_eq (fun m hm => h.bytes e hmem m hm), nz_rep (by omega), nz_rep0, h.nzs, ns_append] at this
    simp only [ns] at this
    omega
  · have := h.tot
    rw [tot2_upd hid, this, hL, tot2_append, tot2_append, ns_append]
    simp only [tot2, ns]
    omega

/-- one of them read -/
theorem Inv.read (h : Inv b L es) {e : Ent} (he : e ∈ es) : (b.drop (baseOf e.id + e.o)).take e.n = List.replicate e.n (e.v : Int) := seg_eq fun m hm => h.bytes e he m hm

/-- its block is the first that holds it -/
theorem Inv.first (h : Inv b L es) {e : Ent} (he : e ∈ es) : ∃ u w, L e.id = u ++ ((e.o : Int), (e.n : Int)) :: w ∧ (∀ x, x ∈ u → ¬ holds x e.o e.n ∧ x.1 ≠ e.o) := by
  obtain ⟨hid, hm, hn, _⟩ := h.ent e he
  obtain ⟨u, w, hL⟩ := List.append_of_mem hm
  refine ⟨u, w, hL, fun x hx => ?_⟩
  have hs := h.srt e.id hid
  rw [hL] at hs
  have := (Srt.apart hs).1 x hx
  simp only at this
  refine ⟨fun hh => ?_, by omega⟩
  unfold holds at hh
  omega

end

theorem find_psOf (ix : Nat → Nat) (L : Nat → List (Int × Int)) {id : Nat} (hid : id < 3) : findP (psOf ix L) id = some (ptOf ix L id) := by
  have h1 : id = 0 ∨ id = 1 ∨ id = 2 := by omega
  unfold findP psOf
  rcases h1 with rfl | rfl | rfl <;> simp [List.find?_cons, ptOf]

theorem setL_psOf {ix : Nat → Nat} (hix : ix 0 ≠ ix 1 ∧ ix 0 ≠ ix 2 ∧ ix 1 ≠ ix 2) (L : Nat → List (Int × Int)) {id : Nat} (hid : id < 3) (l : List (Int × Int)) : setL (psOf ix L) (ix id) l = psOf ix (upd L id l) := by
  obtain ⟨h1, h2, h3⟩ := hix
  have h : id = 0 ∨ id = 1 ∨ id = 2 := by omega
  unfold setL psOf
  rcases h with rfl | rfl | rfl <;> simp [ptOf, upd, h1, h2, h3, h1.symm, h2.symm, h3.symm]

end Go.Proofs.YtnbpgehpjhifgaaDoor.Lx

/-
  The law ArenaApart: its loops.
-/
namespace Go.Proofs.YtnbpgehpjhifgaaDoor.Lx
open Go Go.Eng Go.Proofs Go.Proofs.LxArena

abbrev DoV := Int × (Int × (Int × (Int × List Int)))
def offs (es : List Ent) : List Int := es.map fun e => (e.o : Int)
def whos (es : List Ent) : List Int := es.map fun e => (e.id : Int)
def whats (es : List Ent) : List Int := es.map fun e => ((1000 * e.n + e.v : Nat) : Int)

theorem wu8_in {n : Int} (h : 0 ≤ n) (h' : n ≤ 255) : wu8 n = n := by
  have hu : wu8 n = n % 256 := by
    show IntKind.wrap .u8 n = _
    simp [IntKind.wrap, IntKind.bits, IntKind.signed]
  rw [hu]
  omega

theorem map_getD {f : Ent → Int} {es : List Ent} {k : Nat} (hk : k < es.length) : List.getD (es.map f) k 0 = f es[k] := by
  rw [getD_lt (by rw [List.length_map]; exact hk), List.getElem_map]

/-- the bytes to be written -/
theorem loop_fill {T0 : TB0} {T1 : TB1} (l : List DoV) (a : Option Nat) (off who what : List Int) {i n : Nat} (hi : i < 60) (hn : n ≤ 1000) (id p : Int) : ∀ (m k : Nat), k ≤ n → n < m + k →
    g_lodgelaw13_ArenaApart_1 100000 m T0 T1 l a off who what (i : Int) id (n : Int) p (List.replicate k ((i + 1 : Nat) : Int) ++ List.replicate (n - k) 0) (k : Int) =
      some ((T0, (T1, ())), (l, (a, (off, (who, (what, ((i : Int), (id, ((n : Int), (p, (List.replicate n ((i + 1 : Nat) : Int), ())))))))))))
  | 0, k, h1, h2 => by omega
  | m + 1, k, h1, h2 => by
    rw [g_lodgelaw13_ArenaApart_1]
    have hlen : (List.replicate k ((i + 1 : Nat) : Int) ++ List.replicate (n - k) 0).length = n := by simp; omega
    by_cases hk : k < n
    · have hset : (List.replicate k ((i + 1 : Nat) : Int) ++ List.replicate (n - k) 0).set k ((i + 1 : Nat) : Int) = List.replicate (k + 1) ((i + 1 : Nat) : Int) ++ List.replicate (n - (k + 1)) 0 := by
        rw [List.set_append_right _ _ (by simp), List.length_replicate, Nat.sub_self, show n - k = (n - (k + 1)) + 1 by omega, List.replicate_succ, List.set_cons_zero, List.replicate_succ', List.append_assoc]
        rfl
      have hw : wu8 (wi64 ((i : Int) + 1)) = ((i + 1 : Nat) : Int) := by rw [wi64_succ (by omega), wu8_in (by omega) (by omega)]
      simp only [Int.toNat_natCast, Nat.zero_add, hw, wi64_succ (i := k) (by omega), hset]
      refine cT (by omega) ?_
      refine cT (Int.natCast_nonneg _) ?_
      refine cT (by rw [hlen]; exact hk) ?_
      refine cT (by rw [hlen]; exact hk) ?_
      refine cT (by trivial) ?_
      refine cT (by trivial) ?_
      refine cT (by trivial) ?_
      refine cT (by rw [hlen]; simp; omega) ?_
      exact loop_fill l a off who what hi hn id p m (k + 1) hk (by omega)
    · have hkn : k = n := by omega
      subst hkn
      refine cF (by omega) ?_
      rw [Nat.sub_self, List.replicate_zero, List.append_nil]
      refine cT rfl ?_
      refine cT rfl ?_
      refine cT rfl ?_
      exact cT rfl rfl

/-- each byte of one of them -/
theorem loop_same {T0 : TB0} {T1 : TB1} (l : List DoV) (a : Option Nat) (es : List Ent) {k : Nat} (hk : k < es.length) (i total : Int) (hv : es[k].v < 1000) (hn : es[k].n ≤ 1000) : ∀ (m q : Nat), q ≤ es[k].n → es[k].n < m + q →
    g_lodgelaw13_ArenaApart_3 100000 m T0 T1 l a (offs es) (whos es) (whats es) i total (k : Int) (es[k].n : Int) (List.replicate es[k].n (es[k].v : Int)) (q : Int) =
      some (.inl ((T0, (T1, ())), (l, (a, (offs es, (whos es, (whats es, (i, (total, ((k : Int), ((es[k].n : Int), ())))))))))))
  | 0, q, h1, h2 => by omega
  | m + 1, q, h1, h2 => by
    rw [g_lodgelaw13_ArenaApart_3]
    have hw : List.getD (whats es) k 0 = ((1000 * es[k].n + es[k].v : Nat) : Int) := map_getD (f := fun e => ((1000 * e.n + e.v : Nat) : Int)) hk
    have hwl : (whats es).length = es.length := List.length_map ..
    by_cases hq : q < es[k].n
    · have hg : List.getD (List.replicate es[k].n (es[k].v : Int)) q 0 = (es[k].v : Int) := by
        rw [getD_lt (by rw [List.length_replicate]; exact hq), List.getElem_replicate]
      have htm : Int.tmod ((1000 * es[k].n + es[k].v : Nat) : Int) 1000 = (es[k].v : Int) := by
        rw [show (1000 : Int) = ((1000 : Nat) : Int) from rfl, tmod_nat]
        congr 1
        omega
      simp only [Int.toNat_natCast, Nat.zero_add, hw, hg, htm, wi64_succ (i := q) (by omega), wi64_in (n := (es[k].v : Int)) (by omega) (by omega), List.length_replicate, hwl]
      refine cT (by omega) ?_
      refine cT (Int.natCast_nonneg _) ?_
      refine cT hq ?_
      refine cT hq ?_
      refine cT (Int.natCast_nonneg _) ?_
      refine cT hk ?_
      refine cT hk ?_
      refine cF (fun e => e rfl) ?_
      refine cT (by trivial) ?_
      refine cT (by trivial) ?_
      refine cT (by trivial) ?_
      refine cT (by trivial) ?_
      exact loop_same l a es hk i total hv hn m (q + 1) hq (by omega)
    · have hqn : q = es[k].n := by omega
      subst hqn
      refine cF (by omega) ?_
      refine cT rfl ?_
      refine cT rfl ?_
      exact cT rfl rfl

/-- all that is there, read -/
theorem loop_read {T0 : TB0} {T1 : TB1} {a : Nat} {b : List Int} {ix : Nat → Nat} {L : Nat → List (Int × Int)} {es : List Ent} (hA : Ar T0 T1 a b (psOf ix L)) (h : Inv b L es) (hes : es.length ≤ 100) (l : List DoV) (i : Int) : ∀ (m k : Nat), k ≤ es.length → es.length < m + k →
    g_lodgelaw13_ArenaApart_2 100000 m T0 T1 l (some a) (offs es) (whos es) (whats es) i ((ns (es.take k) : Nat) : Int) (k : Int) =
      some (.inl ((T0, (T1, ())), (l, (some a, (offs es, (whos es, (whats es, (i, (((ns es : Nat) : Int), ())))))))))
  | 0, k, h1, h2 => by omega
  | m + 1, k, h1, h2 => by
    rw [g_lodgelaw13_ArenaApart_2]
    have hol : (offs es).length = es.length := List.length_map ..
    have hul : (whos es).length = es.length := List.length_map ..
    have hwl : (whats es).length = es.length := List.length_map ..
    by_cases hk : k < es.length
    · have hem : es[k] ∈ es := List.getElem_mem hk
      obtain ⟨hid, hblk, hn, hn30, hv, hv60⟩ := h.ent _ hem
      have hwh : List.getD (whats es) k 0 = ((1000 * es[k].n + es[k].v : Nat) : Int) := map_getD (f := fun e => ((1000 * e.n + e.v : Nat) : Int)) hk
      have hof : List.getD (offs es) k 0 = (es[k].o : Int) := map_getD (f := fun e => (e.o : Int)) hk
      have hwo : List.getD (whos es) k 0 = (es[k].id : Int) := map_getD (f := fun e => (e.id : Int)) hk
      have htd : wi64 (Int.tdiv ((1000 * es[k].n + es[k].v : Nat) : Int) 1000) = (es[k].n : Int) := by
        have : Int.tdiv ((1000 * es[k].n + es[k].v : Nat) : Int) 1000 = (((1000 * es[k].n + es[k].v) / 1000 : Nat) : Int) := rfl
        rw [this, show (1000 * es[k].n + es[k].v) / 1000 = es[k].n by omega]
        exact wi64_in (by omega) (by omega)
      obtain ⟨u, w, hL, hfirst⟩ := h.first hem
      have hin := h.ent_in hem
      have hpi := part_in hid
      have hLl : (L es[k].id).length ≤ 150 := by
        have := (h.srt es[k].id hid).le
        omega
      have hul2 : u.length < (L es[k].id).length := by rw [hL]; simp
      have hget : (L es[k].id)[u.length] = ((es[k].o : Int), (es[k].n : Int)) := by simp [hL]
      have hread := Read_hit (N := 100000) hA (by omega) (by simp [psOf]) (find_psOf ix L hid) ((h.srt es[k].id hid).small (by omega)) (by show (L es[k].id).length < 500; omega) (po := baseOf es[k].id) (oo := es[k].o) (nn := es[k].n) (j := u.length) rfl hul2
        (by show holds ((L es[k].id)[u.length]) _ _; rw [hget]; unfold holds; simp only; omega)
        (fun i hi => by
          show ¬ holds ((L es[k].id)[i]'(by omega)) _ _
          have : (L es[k].id)[i]'(by omega) = u[i] := by simp [hL, List.getElem_append_left hi]
          rw [this]
          exact (hfirst _ (List.getElem_mem hi)).1) (by rw [h.len]; omega) (by rw [h.len]; omega)
      rw [h.read hem] at hread
      have hsame := loop_same (T0 := T0) (T1 := T1) l (some a) es hk i ((ns (es.take k) : Nat) : Int) (by omega) (by omega) 100000 0 (Nat.zero_le _) (by omega)
      rw [show ((0 : Nat) : Int) = 0 from rfl] at hsame
      have hnst : ns (es.take (k + 1)) = ns (es.take k) + es[k].n := by
        rw [List.take_succ_eq_append_getElem hk, ns_append]
        simp [ns]
      have hnsb : ∀ j : Nat, j ≤ es.length → ns (es.take j) ≤ 30 * j := by
        intro j
        induction j with
        | zero => intro _; simp [ns]
        | succ j ih =>
          intro hj
          have hj' : j < es.length := hj
          rw [List.take_succ_eq_append_getElem hj', ns_append]
          have := (h.ent _ (List.getElem_mem hj')).2.2.2.1
          have := ih (by omega)
          simp only [ns]
          omega
      have hb1 := hnsb k (by omega)
      simp only [Int.toNat_natCast, Nat.zero_add, hwh, hof, hwo, htd, hol, hul, hwl]
      refine cT (by omega) ?_
      refine cT (Int.natCast_nonneg _) ?_
      refine cT hk ?_
      refine cT hk ?_
      refine cT (Int.natCast_nonneg _) ?_
      refine cT hk ?_
      refine cT hk ?_
      refine cT (Int.natCast_nonneg _) ?_
      refine cT hk ?_
      refine cT hk ?_
      refine bnd _ hread ?_
      refine bF rfl ?_
      refine cF (by simp) ?_
      refine cT (by trivial) ?_
      refine cT (by trivial) ?_
      refine cT (by trivial) ?_
      refine cT (by trivial) ?_
      refine bnd _ hsame ?_
      simp only [Sum.elim_inl, hol, hul, hwl]
      refine cT (Nat.le_refl _) ?_
      refine cT (Nat.le_refl _) ?_
      refine cT (Nat.le_refl _) ?_
      rw [List.take_of_length_le (Nat.le_of_eq hol), List.take_of_length_le (Nat.le_of_eq hul), List.take_of_length_le (Nat.le_of_eq hwl), wi64_succ (by omega), wi64_add (by omega), ← hnst]
      exact loop_read hA h hes l i m (k + 1) hk (by omega)
    · have hkl : k = es.length := by omega
      subst hkl
      rw [List.take_of_length_le (Nat.le_refl _), hol]
      refine cF (by omega) ?_
      refine cT rfl ?_
      refine cT rfl ?_
      exact cT rfl rfl

/-- how many bytes are not nothing -/
theorem loop_count {T0 : TB0} {T1 : TB1} (l : List DoV) (a : Option Nat) (off who what : List Int) (i total : Int) (raw : List Int) (hr : raw.length ≤ 1000) : ∀ (m k c : Nat), k ≤ raw.length → raw.length < m + k → c ≤ k →
    g_lodgelaw13_ArenaApart_4 100000 m T0 T1 l a off who what i total raw (c : Int) (k : Int) =
      some ((T0, (T1, ())), (l, (a, (off, (who, (what, (i, (total, (((c + nz (raw.drop k) : Nat) : Int), ())))))))))
  | 0, k, c, h1, h2, h3 => by omega
  | m + 1, k, c, h1, h2, h3 => by
    rw [g_lodgelaw13_ArenaApart_4]
    by_cases hk : k < raw.length
    · have hd : nz (raw.drop k) = (if raw[k] = 0 then 0 else 1) + nz (raw.drop (k + 1)) := by
        rw [List.drop_eq_getElem_cons hk]
        unfold nz
        rw [List.countP_cons]
        split <;> simp_all <;> omega
      simp only [Int.toNat_natCast, Nat.zero_add, getD_lt hk, wi64_succ (i := k) (by omega), wi64_succ (i := c) (by omega)]
      refine cT (by omega) ?_
      refine cT (Int.natCast_nonneg _) ?_
      refine cT hk ?_
      refine cT hk ?_
      by_cases e : raw[k] = 0
      · refine cF (fun h => h e) ?_
        refine cT (by trivial) ?_
        refine cT (by trivial) ?_
        refine cT (by trivial) ?_
        refine cT (by trivial) ?_
        rw [hd, if_pos e, Nat.zero_add]
        exact loop_count l a off who what i total raw hr m (k + 1) c hk (by omega) (by omega)
      · refine cT e ?_
        refine cT (by trivial) ?_
        refine cT (by trivial) ?_
        refine cT (by trivial) ?_
        refine cT (by trivial) ?_
        rw [hd, if_neg e, show c + (1 + nz (raw.drop (k + 1))) = c + 1 + nz (raw.drop (k + 1)) by omega]
        exact loop_count l a off who what i total raw hr m (k + 1) (c + 1) hk (by omega) (by omega)
    · have hkl : k = raw.length := by omega
      subst hkl
      refine cF (by omega) ?_
      refine cT rfl ?_
      refine cT rfl ?_
      refine cT rfl ?_
      rw [List.drop_length]
      rfl

end Go.Proofs.YtnbpgehpjhifgaaDoor.Lx

/-
  The law ArenaApart: its main loop, and the law.
-/
namespace Go.Proofs.YtnbpgehpjhifgaaDoor.Lx
open Go Go.Eng Go.Proofs Go.Proofs.LxArena

theorem Srt.tot : ∀ {l : List (Int × Int)} {e size : Int}, Srt e l size → e + tot2 l ≤ size ∧ 0 ≤ tot2 l
  | [], e, size, h => by simp only [Srt] at h; simp only [tot2]; omega
  | x :: r, e, size, h => by
    simp only [Srt] at h
    have := Srt.tot h.2.2
    simp only [tot2]
    omega

section
variable {b : List Int} {L : Nat → List (Int × Int)} {es : List Ent}

theorem Inv.used (h : Inv b L es) {T0 : TB0} {T1 : TB1} {a : Nat} {ix : Nat → Nat} (hA : Ar T0 T1 a b (psOf ix L)) (id : Nat) (hid : id < 3) : F_arena_Arena_Used 100000 T0 T1 (some a) (id : Int) = some ((T0, (T1, ())), (tot2 (L id), ())) := by
  have hs : ∀ i, i < 3 → (L i).length ≤ 150 := fun i hi => by
    have := (h.srt i hi).le
    have := part_in hi
    omega
  rw [Used_ok hA (by simp [psOf]) (fun p hp => by
    simp only [psOf, List.mem_cons, List.not_mem_nil, or_false] at hp
    rcases hp with rfl | rfl | rfl
    · have := hs 0 (by omega); show (L 0).length ≤ _; omega
    · have := hs 1 (by omega); show (L 1).length ≤ _; omega
    · have := hs 2 (by omega); show (L 2).length ≤ _; omega)]
  have hu : usedP (psOf ix L) (id : Int) = tot2 (L id) := by
    unfold usedP
    rw [find_psOf ix L hid]
    show sumW (L id) = _
    have hsr := h.srt id hid
    have := hsr.tot
    have := part_in hid
    exact sumW_eq _ (fun x hx => by have := (hsr.mem x hx).2.1; omega) (by omega)
  rw [hu]

theorem Inv.count (h : Inv b L es) {T0 : TB0} {T1 : TB1} (l : List DoV) (a : Option Nat) (off who what : List Int) (i total : Int) :
    g_lodgelaw13_ArenaApart_4 100000 100000 T0 T1 l a off who what i total b 0 0 = some ((T0, (T1, ())), (l, (a, (off, (who, (what, (i, (total, (((ns es : Nat) : Int), ()))))))))) := by
  have := loop_count (T0 := T0) (T1 := T1) l a off who what i total b (by rw [h.len]; omega) 100000 0 0 (Nat.zero_le _) (by rw [h.len]; omega) (Nat.le_refl _)
  rw [List.drop_zero, h.nzs, Nat.zero_add, show ((0 : Nat) : Int) = 0 from rfl] at this
  exact this

theorem Inv.used_all (h : Inv b L es) : wi64 (wi64 (tot2 (L 0) + tot2 (L 1)) + tot2 (L 2)) = ((ns es : Nat) : Int) := by
  have h0 := (h.srt 0 (by omega)).tot
  have h1 := (h.srt 1 (by omega)).tot
  have h2 := (h.srt 2 (by omega)).tot
  simp only [szOf] at h0 h1 h2
  rw [wi64_in (n := tot2 (L 0) + tot2 (L 1)) (by omega) (by omega), wi64_in (by omega) (by omega), h.tot]

end

/-- one goes, the last one comes in its place -/
theorem swap_perm {es : List Ent} {k : Nat} (hk : k < es.length) : es.Perm ((es.set k (es[es.length - 1]'(by omega))).take (es.length - 1) ++ [es[k]]) := by
  obtain ⟨q, hq⟩ : ∃ q, es.length = q + 1 := ⟨es.length - 1, by omega⟩
  obtain ⟨init, z, rfl⟩ : ∃ init z, es = init ++ [z] := ⟨es.dropLast, es.getLast (by intro h; simp [h] at hk), by rw [List.dropLast_concat_getLast]⟩
  have hl : (init ++ [z]).length - 1 = init.length := by simp
  have hz : (init ++ [z])[(init ++ [z]).length - 1]'(by omega) = z := by simp
  rw [hz, hl]
  by_cases e : k < init.length
  · have hg : (init ++ [z])[k] = init[k] := List.getElem_append_left e
    rw [hg, List.set_append_left _ _ e, List.take_left' (by simp)]
    have hi : init = init.take k ++ init[k] :: init.drop (k + 1) := by rw [← List.drop_eq_getElem_cons e, List.take_append_drop]
    have hs : init.set k z = init.take k ++ z :: init.drop (k + 1) := by rw [List.set_eq_take_append_cons_drop, if_pos e]
    rw [hs]
    generalize init[k] = x at hi
    generalize init.take k = u at hi
    generalize init.drop (k + 1) = v at hi
    subst hi
    refine List.perm_append_comm.trans ?_
    refine List.Perm.trans ?_ List.perm_append_comm
    simp only [List.cons_append, List.nil_append]
    refine (List.Perm.cons z List.perm_middle).trans ?_
    refine List.Perm.trans ?_ (List.Perm.cons x List.perm_middle).symm
    exact List.Perm.swap x z (u ++ v)
  · have hki : k = init.length := by simp at hk; omega
    subst hki
    have hg : (init ++ [z])[init.length] = z := by simp
    rw [hg, List.set_append_right _ _ (Nat.le_refl _), Nat.sub_self, List.set_cons_zero, List.take_left' rfl]

theorem cut_map {f : Ent → Int} {es : List Ent} {k : Nat} (hk : k < es.length) : List.take (es.length - 1) (List.set (es.map f) k (List.getD (es.map f) (es.length - 1) 0)) = ((es.set k (es[es.length - 1]'(by omega))).take (es.length - 1)).map f := by
  rw [map_getD (by omega), List.map_take, List.map_set]

/-- THE MAIN LOOP -/
theorem loop_main {a : Nat} {ix : Nat → Nat} (hix : ix 0 ≠ ix 1 ∧ ix 0 ≠ ix 2 ∧ ix 1 ≠ ix 2) (l : List DoV) (hl : l.length ≤ 60) : ∀ (m i : Nat) (T0 : TB0) (T1 : TB1) (b : List Int) (L : Nat → List (Int × Int)) (es : List Ent), Ar T0 T1 a b (psOf ix L) → Inv b L es → es.length ≤ i → i ≤ l.length → l.length < m + i →
    Yld (g_lodgelaw13_ArenaApart_0 100000 m T0 T1 l (some a) (offs es) (whos es) (whats es) (i : Int)) fun y => ∃ z, y = .inl z
  | 0, i, _, _, _, _, _, _, _, _, _, h' => by omega
  | m + 1, i, T0, T1, b, L, es, hA, h, hes, hi', h' => by
    rw [g_lodgelaw13_ArenaApart_0]
    by_cases hi : i < l.length
    · refine Yld.cT (by omega) ?_
      refine Yld.cT (Int.natCast_nonneg _) ?_
      rw [Int.toNat_natCast]
      refine Yld.cT hi ?_
      generalize List.getD l i ((0 : Int), ((0 : Int), ((0 : Int), ((0 : Int), ([] : List Int))))) = d
      refine Yld.bnd _ (Number_ok _ _ (by omega) (by omega)) ?_
      obtain ⟨id, hide, hid⟩ : ∃ id : Nat, d.2.1 % 3 = id ∧ id < 3 := ⟨(d.2.1 % 3).toNat, by omega, by omega⟩
      refine Yld.cT (Int.natCast_nonneg _) ?_
      refine Yld.cT hi ?_
      refine Yld.bnd _ (Number_ok _ _ (by omega) (by omega)) ?_
      obtain ⟨n, hne, hn1, hn30⟩ : ∃ n : Nat, wi64 (d.2.2.1 % 30 + 1) = n ∧ 1 ≤ n ∧ n ≤ 30 := ⟨(d.2.2.1 % 30 + 1).toNat, by rw [wi64_in (by omega) (by omega)]; omega, by omega, by omega⟩
      simp only [hide, hne]
      refine Yld.cT (Int.natCast_nonneg _) ?_
      refine Yld.cT hi ?_
      have hsz := part_in hid
      have hLlen : (L id).length ≤ 150 := by
        have := (h.srt id hid).le
        omega
      refine Yld.ite (fun _ => ?_) (fun _ => ?_)
      · --
        have hp : ptOf ix L id ∈ psOf ix L := List.mem_of_find?_eq_some (find_psOf ix L hid)
        have htake := Take_go (N := 100000) hA (by omega) (by simp [psOf]) (find_psOf ix L hid) ((h.srt id hid).small (by omega)) (by show (L id).length < 500; omega) (show (0 : Int) ≤ (szOf id : Int) by omega) (show (szOf id : Int) ≤ 1099511627776 by omega) (n := (n : Int)) (by omega)
        by_cases hok : (gapA (L id) (szOf id : Int) (n : Int)).2.2 = true
        · obtain ⟨u, w, hL, htk, hdr, hs, hu, hw⟩ := gapA_ins (by omega) (h.srt id hid) hok
          obtain ⟨o, ho⟩ : ∃ o : Nat, (gapA (L id) (szOf id : Int) (n : Int)).1 = o := ⟨(gapA (L id) (szOf id : Int) (n : Int)).1.toNat, by have := (Srt.apart hs).2.1; simp only at this; omega⟩
          rw [ho] at hs hu hw
          simp only [ptOf, hok, if_true, ho, htk, hdr, List.append_assoc, List.cons_append, List.nil_append] at htake
          have hI' := h.take (n := n) (v := i + 1) hid (by omega) (by omega) (by omega) (by omega) hL hs hu hw
          have hA1 := hA.setL hp (u ++ ((o : Int), (n : Int)) :: w)
          rw [show (ptOf ix L id).i = ix id from rfl, setL_psOf hix L hid] at hA1
          have hsap := Srt.apart hs
          simp only at hsap
          have hpi := part_in hid
          have hlen' : (List.replicate n ((i + 1 : Nat) : Int)).length = n := List.length_replicate ..
          have hLu : upd L id (u ++ ((o : Int), (n : Int)) :: w) id = u ++ ((o : Int), (n : Int)) :: w := by simp [upd]
          have hle := hs.le
          have hwrite := Write_hit (N := 100000) hA1 (by omega) (by simp [psOf]) (find_psOf ix _ hid) (by rw [show (ptOf ix (upd L id (u ++ ((o : Int), (n : Int)) :: w)) id).l = u ++ ((o : Int), (n : Int)) :: w from hLu]; exact hs.small (by omega)) (by rw [show (ptOf ix (upd L id (u ++ ((o : Int), (n : Int)) :: w)) id).l = u ++ ((o : Int), (n : Int)) :: w from hLu]; omega)
            (po := baseOf id) (oo := o) (j := u.length) (List.replicate n ((i + 1 : Nat) : Int)) rfl (by rw [show (ptOf ix (upd L id (u ++ ((o : Int), (n : Int)) :: w)) id).l = u ++ ((o : Int), (n : Int)) :: w from hLu]; simp)
            (by simp only [show (ptOf ix (upd L id (u ++ ((o : Int), (n : Int)) :: w)) id).l = u ++ ((o : Int), (n : Int)) :: w from hLu, List.getElem_append_right (Nat.le_refl _), Nat.sub_self, List.getElem_cons_zero]; unfold holds; simp only [hlen']; omega)
            (fun j hj => by
              simp only [show (ptOf ix (upd L id (u ++ ((o : Int), (n : Int)) :: w)) id).l = u ++ ((o : Int), (n : Int)) :: w from hLu, List.getElem_append_left hj]
              have := hu u[j] (List.getElem_mem hj)
              unfold holds
              rw [hlen']
              omega) (by rw [hlen', h.len]; omega) (by rw [h.len]; omega)
          have hA2 := hA1.setB (putB b (baseOf id + o) (List.replicate n ((i + 1 : Nat) : Int)))
          refine Yld.bnd _ htake ?_
          refine Yld.bF rfl ?_
          refine Yld.cT (by omega) ?_
          refine Yld.cT (Int.le_refl _) ?_
          refine Yld.cT (show (n : Int) * ((1 : Nat) + 1) ≤ ((1099511627776 : Nat) : Int) by omega) ?_
          refine Yld.cT (by trivial) ?_
          refine Yld.cT (by trivial) ?_
          refine Yld.cT (by trivial) ?_
          rw [Int.toNat_natCast]
          refine Yld.cT (List.length_replicate ..).symm ?_
          have hfill := loop_fill (T0 := T0) (T1 := T1.set (ix id) ((id : Int), ((baseOf id : Int), ((szOf id : Int), (u ++ ((o : Int), (n : Int)) :: w, ()))))) l (some a) (offs es) (whos es) (whats es) (i := i) (n := n) (by omega) (by omega) (id : Int) (o : Int) 100000 0 (Nat.zero_le _) (by omega)
          refine Yld.bnd _ hfill ?_
          simp only [hlen', Nat.zero_add, Nat.add_zero]
          refine Yld.cT (Nat.le_refl _) ?_
          rw [List.take_of_length_le (Nat.le_of_eq hlen')]
          refine Yld.bnd _ hwrite ?_
          refine Yld.bF rfl ?_
          have hol : (offs es).length = es.length := List.length_map ..
          have hul : (whos es).length = es.length := List.length_map ..
          have hwl : (whats es).length = es.length := List.length_map ..
          have hx1 : wi64 (wi64 (wi64 (1000 * (n : Int)) + (i : Int)) + 1) = ((1000 * n + (i + 1) : Nat) : Int) := by
            rw [wi64_in (n := 1000 * (n : Int)) (by omega) (by omega), wi64_in (n := 1000 * (n : Int) + (i : Int)) (by omega) (by omega), wi64_in (by omega) (by omega)]
            omega
          have hoffs : List.take es.length (offs es) ++ [(o : Int)] = offs (es ++ [⟨id, o, n, i + 1⟩]) := by rw [← hol, List.take_length]; simp [offs]
          have hwhos : List.take es.length (whos es) ++ [(id : Int)] = whos (es ++ [⟨id, o, n, i + 1⟩]) := by rw [← hul, List.take_length]; simp [whos]
          have hwhats : List.take es.length (whats es) ++ [((1000 * n + (i + 1) : Nat) : Int)] = whats (es ++ [⟨id, o, n, i + 1⟩]) := by rw [← hwl, List.take_length]; simp [whats]
          have hel : (es ++ [(⟨id, o, n, i + 1⟩ : Ent)]).length = es.length + 1 := by simp
          have hol2 : (offs (es ++ [⟨id, o, n, i + 1⟩])).length = es.length + 1 := by rw [offs, List.length_map, hel]
          have hul2 : (whos (es ++ [⟨id, o, n, i + 1⟩])).length = es.length + 1 := by rw [whos, List.length_map, hel]
          have hwl2 : (whats (es ++ [⟨id, o, n, i + 1⟩])).length = es.length + 1 := by rw [whats, List.length_map, hel]
          simp only [hx1, hoffs, hwhos, hwhats, hol, hul, hwl, hol2, hul2, hwl2]
          have hmost : (es.length + 1) * (8 + 1) ≤ most := by unfold most; omega
          refine Yld.cT (by trivial) ?_
          refine Yld.cT hmost ?_
          refine Yld.cT (by trivial) ?_
          refine Yld.cT hmost ?_
          refine Yld.cT (by trivial) ?_
          refine Yld.cT hmost ?_
          refine Yld.cT (Nat.le_refl _) ?_
          refine Yld.cT (Nat.le_refl _) ?_
          refine Yld.cT (Nat.le_refl _) ?_
          rw [List.take_of_length_le (Nat.le_of_eq hol2), List.take_of_length_le (Nat.le_of_eq hul2), List.take_of_length_le (Nat.le_of_eq hwl2)]
          have hread := loop_read hA2 hI' (by rw [hel]; omega) l (i : Int) 100000 0 (Nat.zero_le _) (by rw [hel]; omega)
          rw [List.take_zero, show ((0 : Nat) : Int) = 0 from rfl, show ((ns [] : Nat) : Int) = 0 from rfl] at hread
          refine Yld.bnd _ hread ?_
          simp only [Sum.elim_inl]
          refine Yld.bnd _ (Raw_all (N := 100000) hA2 (n := 400) hI'.len (by omega) (by omega)) ?_
          refine Yld.cT (by trivial) ?_
          refine Yld.cT (by trivial) ?_
          refine Yld.cT (by trivial) ?_
          refine Yld.cT (by trivial) ?_
          refine Yld.bnd _ (hI'.count l (some a) _ _ _ _ _) ?_
          refine Yld.cF (fun e => e rfl) ?_
          refine Yld.bnd _ (hI'.used hA2 0 (by omega)) ?_
          refine Yld.bnd _ (hI'.used hA2 1 (by omega)) ?_
          refine Yld.bnd _ (hI'.used hA2 2 (by omega)) ?_
          rw [hI'.used_all]
          refine Yld.cF (fun e => e rfl) ?_
          refine Yld.cT (by trivial) ?_
          refine Yld.cT (by trivial) ?_
          refine Yld.cT (by trivial) ?_
          rw [wi64_succ (by omega)]
          exact loop_main hix l hl m (i + 1) _ _ _ _ _ hA2 hI' (by rw [hel]; omega) hi (by omega)
        · simp only [ptOf, hok, Bool.false_eq_true, if_false] at htake
          refine Yld.bnd _ htake ?_
          refine Yld.bT rfl ?_
          refine Yld.cT (by trivial) ?_
          refine Yld.cT (by trivial) ?_
          refine Yld.cT (by trivial) ?_
          rw [wi64_succ (by omega)]
          exact loop_main hix l hl m (i + 1) _ _ _ _ _ hA h (by omega) hi (by omega)
      · refine Yld.ite (fun _ => ?_) (fun hne0 => ?_)
        · --
          have hp : ptOf ix L id ∈ psOf ix L := List.mem_of_find?_eq_some (find_psOf ix L hid)
          have htake := Take_go (N := 100000) hA (by omega) (by simp [psOf]) (find_psOf ix L hid) ((h.srt id hid).small (by omega)) (by show (L id).length < 500; omega) (show (0 : Int) ≤ (szOf id : Int) by omega) (show (szOf id : Int) ≤ 1099511627776 by omega) (n := (n : Int)) (by omega)
          by_cases hok : (gapA (L id) (szOf id : Int) (n : Int)).2.2 = true
          · obtain ⟨u, w, hL, htk, hdr, hs, hu, hw⟩ := gapA_ins (by omega) (h.srt id hid) hok
            obtain ⟨o, ho⟩ : ∃ o : Nat, (gapA (L id) (szOf id : Int) (n : Int)).1 = o := ⟨(gapA (L id) (szOf id : Int) (n : Int)).1.toNat, by have := (Srt.apart hs).2.1; simp only at this; omega⟩
            rw [ho] at hs hu hw
            simp only [ptOf, hok, if_true, ho, htk, hdr, List.append_assoc, List.cons_append, List.nil_append] at htake
            have hI' := h.take (n := n) (v := i + 1) hid (by omega) (by omega) (by omega) (by omega) hL hs hu hw
            have hA1 := hA.setL hp (u ++ ((o : Int), (n : Int)) :: w)
            rw [show (ptOf ix L id).i = ix id from rfl, setL_psOf hix L hid] at hA1
            have hsap := Srt.apart hs
            simp only at hsap
            have hpi := part_in hid
            have hlen' : (List.replicate n ((i + 1 : Nat) : Int)).length = n := List.length_replicate ..
            have hLu : upd L id (u ++ ((o : Int), (n : Int)) :: w) id = u ++ ((o : Int), (n : Int)) :: w := by simp [upd]
            have hle := hs.le
            have hwrite := Write_hit (N := 100000) hA1 (by omega) (by simp [psOf]) (find_psOf ix _ hid) (by rw [show (ptOf ix (upd L id (u ++ ((o : Int), (n : Int)) :: w)) id).l = u ++ ((o : Int), (n : Int)) :: w from hLu]; exact hs.small (by omega)) (by rw [show (ptOf ix (upd L id (u ++ ((o : Int), (n : Int)) :: w)) id).l = u ++ ((o : Int), (n : Int)) :: w from hLu]; omega)
              (po := baseOf id) (oo := o) (j := u.length) (List.replicate n ((i + 1 : Nat) : Int)) rfl (by rw [show (ptOf ix (upd L id (u ++ ((o : Int), (n : Int)) :: w)) id).l = u ++ ((o : Int), (n : Int)) :: w from hLu]; simp)
              (by simp only [show (ptOf ix (upd L id (u ++ ((o : Int), (n : Int)) :: w)) id).l = u ++ ((o : Int), (n : Int)) :: w from hLu, List.getElem_append_right (Nat.le_refl _), Nat.sub_self, List.getElem_cons_zero]; unfold holds; simp only [hlen']; omega)
              (fun j hj => by
                simp only [show (ptOf ix (upd L id (u ++ ((o : Int), (n : Int)) :: w)) id).l = u ++ ((o : Int), (n : Int)) :: w from hLu, List.getElem_append_left hj]
                have := hu u[j] (List.getElem_mem hj)
                unfold holds
                rw [hlen']
                omega) (by rw [hlen', h.len]; omega) (by rw [h.len]; omega)
            have hA2 := hA1.setB (putB b (baseOf id + o) (List.replicate n ((i + 1 : Nat) : Int)))
            refine Yld.bnd _ htake ?_
            refine Yld.bF rfl ?_
            refine Yld.cT (by omega) ?_
            refine Yld.cT (Int.le_refl _) ?_
            refine Yld.cT (show (n : Int) * ((1 : Nat) + 1) ≤ ((1099511627776 : Nat) : Int) by omega) ?_
            refine Yld.cT (by trivial) ?_
            refine Yld.cT (by trivial) ?_
            refine Yld.cT (by trivial) ?_
            rw [Int.toNat_natCast]
            refine Yld.cT (List.length_replicate ..).symm ?_
            have hfill := loop_fill (T0 := T0) (T1 := T1.set (ix id) ((id : Int), ((baseOf id : Int), ((szOf id : Int), (u ++ ((o : Int), (n : Int)) :: w, ()))))) l (some a) (offs es) (whos es) (whats es) (i := i) (n := n) (by omega) (by omega) (id : Int) (o : Int) 100000 0 (Nat.zero_le _) (by omega)
            refine Yld.bnd _ hfill ?_
            simp only [hlen', Nat.zero_add, Nat.add_zero]
            refine Yld.cT (Nat.le_refl _) ?_
            rw [List.take_of_length_le (Nat.le_of_eq hlen')]
            refine Yld.bnd _ hwrite ?_
            refine Yld.bF rfl ?_
            have hol : (offs es).length = es.length := List.length_map ..
            have hul : (whos es).length = es.length := List.length_map ..
            have hwl : (whats es).length = es.length := List.length_map ..
            have hx1 : wi64 (wi64 (wi64 (1000 * (n : Int)) + (i : Int)) + 1) = ((1000 * n + (i + 1) : Nat) : Int) := by
              rw [wi64_in (n := 1000 * (n : Int)) (by omega) (by omega), wi64_in (n := 1000 * (n : Int) + (i : Int)) (by omega) (by omega), wi64_in (by omega) (by omega)]
              omega
            have hoffs : List.take es.length (offs es) ++ [(o : Int)] = offs (es ++ [⟨id, o, n, i + 1⟩]) := by rw [← hol, List.take_length]; simp [offs]
            have hwhos : List.take es.length (whos es) ++ [(id : Int)] = whos (es ++ [⟨id, o, n, i + 1⟩]) := by rw [← hul, List.take_length]; simp [whos]
            have hwhats : List.take es.length (whats es) ++ [((1000 * n + (i + 1) : Nat) : Int)] = whats (es ++ [⟨id, o, n, i + 1⟩]) := by rw [← hwl, List.take_length]; simp [whats]
            have hel : (es ++ [(⟨id, o, n, i + 1⟩ : Ent)]).length = es.length + 1 := by simp
            have hol2 : (offs (es ++ [⟨id, o, n, i + 1⟩])).length = es.length + 1 := by rw [offs, List.length_map, hel]
            have hul2 : (whos (es ++ [⟨id, o, n, i + 1⟩])).length = es.length + 1 := by rw [whos, List.length_map, hel]
            have hwl2 : (whats (es ++ [⟨id, o, n, i + 1⟩])).length = es.length + 1 := by rw [whats, List.length_map, hel]
            simp only [hx1, hoffs, hwhos, hwhats, hol, hul, hwl, hol2, hul2, hwl2]
            have hmost : (es.length + 1) * (8 + 1) ≤ most := by unfold most; omega
            refine Yld.cT (by trivial) ?_
            refine Yld.cT hmost ?_
            refine Yld.cT (by trivial) ?_
            refine Yld.cT hmost ?_
            refine Yld.cT (by trivial) ?_
            refine Yld.cT hmost ?_
            refine Yld.cT (Nat.le_refl _) ?_
            refine Yld.cT (Nat.le_refl _) ?_
            refine Yld.cT (Nat.le_refl _) ?_
            rw [List.take_of_length_le (Nat.le_of_eq hol2), List.take_of_length_le (Nat.le_of_eq hul2), List.take_of_length_le (Nat.le_of_eq hwl2)]
            have hread := loop_read hA2 hI' (by rw [hel]; omega) l (i : Int) 100000 0 (Nat.zero_le _) (by rw [hel]; omega)
            rw [List.take_zero, show ((0 : Nat) : Int) = 0 from rfl, show ((ns [] : Nat) : Int) = 0 from rfl] at hread
            refine Yld.bnd _ hread ?_
            simp only [Sum.elim_inl]
            refine Yld.bnd _ (Raw_all (N := 100000) hA2 (n := 400) hI'.len (by omega) (by omega)) ?_
            refine Yld.cT (by trivial) ?_
            refine Yld.cT (by trivial) ?_
            refine Yld.cT (by trivial) ?_
            refine Yld.cT (by trivial) ?_
            refine Yld.bnd _ (hI'.count l (some a) _ _ _ _ _) ?_
            refine Yld.cF (fun e => e rfl) ?_
            refine Yld.bnd _ (hI'.used hA2 0 (by omega)) ?_
            refine Yld.bnd _ (hI'.used hA2 1 (by omega)) ?_
            refine Yld.bnd _ (hI'.used hA2 2 (by omega)) ?_
            rw [hI'.used_all]
            refine Yld.cF (fun e => e rfl) ?_
            refine Yld.cT (by trivial) ?_
            refine Yld.cT (by trivial) ?_
            refine Yld.cT (by trivial) ?_
            rw [wi64_succ (by omega)]
            exact loop_main hix l hl m (i + 1) _ _ _ _ _ hA2 hI' (by rw [hel]; omega) hi (by omega)
          · simp only [ptOf, hok, Bool.false_eq_true, if_false] at htake
            refine Yld.bnd _ htake ?_
            refine Yld.bT rfl ?_
            refine Yld.cT (by trivial) ?_
            refine Yld.cT (by trivial) ?_
            refine Yld.cT (by trivial) ?_
            rw [wi64_succ (by omega)]
            exact loop_main hix l hl m (i + 1) _ _ _ _ _ hA h (by omega) hi (by omega)
        · have hol : (offs es).length = es.length := List.length_map ..
          have hul : (whos es).length = es.length := List.length_map ..
          have hwl : (whats es).length = es.length := List.length_map ..
          simp only [hol, hul, hwl, List.length_set] at hne0 ⊢
          refine Yld.cT (Int.natCast_nonneg _) ?_
          refine Yld.cT hi ?_
          refine Yld.bnd _ (Number_ok _ _ (by omega) (by omega)) ?_
          obtain ⟨k, hke, hk⟩ : ∃ k : Nat, d.2.2.2.1 % (es.length : Int) = k ∧ k < es.length := by
            have h1 := Int.emod_nonneg d.2.2.2.1 (show (es.length : Int) ≠ 0 by omega)
            have h2 := Int.emod_lt_of_pos d.2.2.2.1 (show (0 : Int) < es.length by omega)
            exact ⟨(d.2.2.2.1 % (es.length : Int)).toNat, by omega, by omega⟩
          have hlast : wi64 ((es.length : Int) - 1) = ((es.length - 1 : Nat) : Int) := by rw [wi64_in (by omega) (by omega)]; omega
          simp only [hke, hlast, Int.toNat_natCast, Nat.zero_add, Nat.sub_zero]
          refine Yld.cT (Int.natCast_nonneg _) ?_
          refine Yld.cT hk ?_
          refine Yld.cT hk ?_
          refine Yld.cT (Int.natCast_nonneg _) ?_
          refine Yld.cT hk ?_
          refine Yld.cT hk ?_
          have hwof : List.getD (whos es) k 0 = (es[k].id : Int) := map_getD (f := fun e => (e.id : Int)) hk
          have hoof : List.getD (offs es) k 0 = (es[k].o : Int) := map_getD (f := fun e => (e.o : Int)) hk
          have hem : es[k] ∈ es := List.getElem_mem hk
          obtain ⟨heid, _, hen, hen30, _, _⟩ := h.ent _ hem
          obtain ⟨u, w, hL, hfirst⟩ := h.first hem
          have hin := h.ent_in hem
          have hpi := part_in heid
          have hLl : (L es[k].id).length ≤ 150 := by
            have := (h.srt es[k].id heid).le
            omega
          have hul2 : u.length < (L es[k].id).length := by rw [hL]; simp
          have hget : (L es[k].id)[u.length] = ((es[k].o : Int), (es[k].n : Int)) := by simp [hL]
          have hdrop := Drop_go (N := 100000) hA (by omega) (by simp [psOf]) (find_psOf ix L heid) (by show (L es[k].id).length < 500; omega) (po := baseOf es[k].id) (oo := es[k].o) (mm := es[k].n) (j := u.length) rfl hul2 hget
            (fun i hi => by
              show ((L es[k].id)[i]'(by omega)).1 ≠ _
              have : (L es[k].id)[i]'(by omega) = u[i] := by simp [hL, List.getElem_append_left hi]
              rw [this]
              exact (hfirst _ (List.getElem_mem hi)).2) (by rw [h.len]; omega) (by rw [h.len]; omega)
          have htd : (L es[k].id).take u.length ++ (L es[k].id).drop (u.length + 1) = u ++ w := by rw [hL, List.take_left' rfl, ← List.drop_drop, List.drop_left' rfl]; rfl
          simp only [ptOf, htd] at hdrop
          have hI' := h.drop (swap_perm hk) hL
          rw [← clearB_put] at hI'
          have hp : ptOf ix L es[k].id ∈ psOf ix L := List.mem_of_find?_eq_some (find_psOf ix L heid)
          have hA1 := hA.setL hp (u ++ w)
          rw [show (ptOf ix L es[k].id).i = ix es[k].id from rfl, setL_psOf hix L heid] at hA1
          have hA2 := hA1.setB (clearB b (baseOf es[k].id + es[k].o) es[k].n)
          rw [hwof, hoof]
          refine Yld.bnd _ hdrop ?_
          refine Yld.bF rfl ?_
          refine Yld.cT (Int.natCast_nonneg _) ?_
          refine Yld.cT (by omega) ?_
          refine Yld.cT (by omega) ?_
          refine Yld.cT (Int.natCast_nonneg _) ?_
          refine Yld.cT (by omega) ?_
          refine Yld.cT (by omega) ?_
          refine Yld.cT (Int.natCast_nonneg _) ?_
          refine Yld.cT (by omega) ?_
          refine Yld.cT (by omega) ?_
          refine Yld.cT (Int.natCast_nonneg _) ?_
          refine Yld.cT hk ?_
          refine Yld.cT hk ?_
          refine Yld.cT (Int.natCast_nonneg _) ?_
          refine Yld.cT hk ?_
          refine Yld.cT hk ?_
          refine Yld.cT (Int.natCast_nonneg _) ?_
          refine Yld.cT hk ?_
          refine Yld.cT hk ?_
          refine Yld.cT (Int.natCast_nonneg _) ?_
          refine Yld.cT (by omega) ?_
          refine Yld.cT (Int.natCast_nonneg _) ?_
          refine Yld.cT (by omega) ?_
          refine Yld.cT (Int.natCast_nonneg _) ?_
          refine Yld.cT (by omega) ?_
          refine Yld.cT (by omega) ?_
          refine Yld.cT (by omega) ?_
          refine Yld.cT (by omega) ?_
          have e1 := cut_map (f := fun e => (e.o : Int)) hk
          have e2 := cut_map (f := fun e => (e.id : Int)) hk
          have e3 := cut_map (f := fun e => ((1000 * e.n + e.v : Nat) : Int)) hk
          unfold offs whos whats
          rw [e1, e2, e3]
          have hel : ((es.set k (es[es.length - 1]'(by omega))).take (es.length - 1)).length = es.length - 1 := by rw [List.length_take, List.length_set]; omega
          have hread := loop_read hA2 hI' (by rw [hel]; omega) l (i : Int) 100000 0 (Nat.zero_le _) (by rw [hel]; omega)
          rw [List.take_zero, show ((0 : Nat) : Int) = 0 from rfl, show ((ns [] : Nat) : Int) = 0 from rfl] at hread
          unfold offs whos whats at hread
          refine Yld.bnd _ hread ?_
          simp only [Sum.elim_inl]
          refine Yld.bnd _ (Raw_all (N := 100000) hA2 (n := 400) hI'.len (by omega) (by omega)) ?_
          refine Yld.cT (by trivial) ?_
          refine Yld.cT (by trivial) ?_
          refine Yld.cT (by trivial) ?_
          refine Yld.cT (by trivial) ?_
          refine Yld.bnd _ (hI'.count l (some a) _ _ _ _ _) ?_
          refine Yld.cF (fun e => e rfl) ?_
          refine Yld.bnd _ (hI'.used hA2 0 (by omega)) ?_
          refine Yld.bnd _ (hI'.used hA2 1 (by omega)) ?_
          refine Yld.bnd _ (hI'.used hA2 2 (by omega)) ?_
          rw [hI'.used_all]
          refine Yld.cF (fun e => e rfl) ?_
          refine Yld.cT (by trivial) ?_
          refine Yld.cT (by trivial) ?_
          refine Yld.cT (by trivial) ?_
          rw [wi64_succ (by omega)]
          exact loop_main hix l hl m (i + 1) _ _ _ _ _ hA2 hI' (by rw [hel]; omega) hi (by omega)
    · refine Yld.cF (by omega) ?_
      exact Yld.ret ⟨_, rfl⟩

end Go.Proofs.YtnbpgehpjhifgaaDoor.Lx

/-
  The law ArenaApart.
-/
namespace Go.Proofs.YtnbpgehpjhifgaaDoor.Lx
open Go Go.Eng Go.Proofs Go.Proofs.LxArena

theorem inv_new : Inv (List.replicate 400 0) (fun _ => []) [] where
  len := List.length_replicate ..
  srt := fun id hid => by
    simp only [Srt]
    omega
  ent := fun e he => by cases he
  nod := List.nodup_nil
  bytes := fun e he => by cases he
  free := fun id hid x hx _ => by
    have := part_in hid
    rw [List.getElem?_replicate, if_pos (by omega)]
  nzs := nz_rep0 400
  tot := rfl

theorem Ar.add_end {T0 : TB0} {T1 : TB1} {a : Nat} {b : List Int} {ps : List Pt} (h : Ar T0 T1 a b ps) {k : Nat} (hk : k = ps.length) {id off size : Int} :
    Ar (T0.set a (b, ((ps.map (fun p => some p.i)).take k ++ [some T1.length] ++ (ps.map (fun p => some p.i)).drop k, ()))) (T1 ++ [(id, (off, (size, ([], ()))))]) a b (ps ++ [⟨T1.length, id, off, size, []⟩]) := by
  rw [← insP_end hk]
  exact h.add

theorem arenaApart_law (l : List DoV) : Yld (F_lodgelaw13_ArenaApart 100000 [] [] l) fun y => y.2.1 = true := by
  obtain ⟨t0, t1, hf⟩ := first_ok
  unfold F_lodgelaw13_ArenaApart
  refine Yld.bnd _ hf ?_
  refine Yld.bF rfl ?_
  refine Yld.ite (fun _ => Yld.ret rfl) (fun hl => ?_)
  refine Yld.bF rfl ?_
  refine Yld.bnd _ (New_ok t0 t1 (size := 400) (by omega) (by omega)) ?_
  refine Yld.bF rfl ?_
  refine Yld.bF rfl ?_
  have hA0 := Ar.new t0 t1 (List.replicate 400 0)
  obtain ⟨b, hb⟩ : ∃ b, b = List.replicate 400 (0 : Int) := ⟨_, rfl⟩
  have hbl : b.length = 400 := by rw [hb, List.length_replicate]
  rw [← hb] at hA0 ⊢
  have hadd1 := Add_go (N := 100000) (id := 0) hA0 (by omega) (by simp) (fun x hx => by cases hx) (by omega) (size := 150) (by omega) rfl
  have hg1 : gapA (areas []) (b.length : Int) 150 = (0, 0, true) := by
    have := gapA_end (ns := []) (size := b.length) (n := 150) (by omega)
    rw [hbl] at this ⊢
    exact this
  rw [hg1] at hadd1
  simp only [if_true] at hadd1
  refine Yld.bnd _ hadd1 ?_
  have hA1 := hA0.add_end (k := 0) (by rfl) (id := 0) (off := 0) (size := 150)
  rw [List.nil_append] at hA1
  have hadd2 := Add_go (N := 100000) (id := 1) hA1 (by omega) (by simp) (fun x hx => by simp [areas] at hx; subst hx; simp) (by omega) (size := 100) (by omega) rfl
  have hg2 : gapA (areas [⟨t1.length, 0, 0, 150, []⟩]) (b.length : Int) 100 = (150, 1, true) := by
    have := gapA_end (ns := [150]) (size := b.length) (n := 100) (by omega)
    rw [hbl] at this ⊢
    exact this
  rw [hg2] at hadd2
  simp only [if_true] at hadd2
  refine Yld.bnd _ hadd2 ?_
  have hA2 := hA1.add_end (k := 1) (by rfl) (id := 1) (off := 150) (size := 100)
  have hadd3 := Add_go (N := 100000) (id := 2) hA2 (by omega) (by simp) (fun x hx => by simp [areas] at hx; rcases hx with rfl | rfl <;> simp) (by omega) (size := 150) (by omega) rfl
  have hg3 : gapA (areas ([⟨t1.length, 0, 0, 150, []⟩] ++ [⟨(t1 ++ [((0 : Int), ((0 : Int), ((150 : Int), (([] : List (Int × Int)), ()))))]).length, 1, 150, 100, []⟩])) (b.length : Int) 150 = (250, 2, true) := by
    have := gapA_end (ns := [150, 100]) (size := b.length) (n := 150) (by omega)
    rw [hbl] at this ⊢
    exact this
  rw [hg3] at hadd3
  simp only [if_true] at hadd3
  refine Yld.bnd _ hadd3 ?_
  have hA3 := hA2.add_end (k := 2) (by rfl) (id := 2) (off := 250) (size := 150)
  have hI := inv_new
  rw [← hb] at hI
  refine Yld.bind (loop_main (a := t0.length) (ix := fun i => t1.length + i) (by omega) l (by omega) 100000 0 _ _ b (fun _ => []) [] ?_ hI (Nat.le_refl _) (Nat.zero_le _) (by omega)) ?_
  · have : psOf (fun i => t1.length + i) (fun _ => []) = [⟨t1.length, 0, 0, 150, []⟩] ++ [⟨(t1 ++ [((0 : Int), ((0 : Int), ((150 : Int), (([] : List (Int × Int)), ()))))]).length, 1, 150, 100, []⟩] ++ [⟨(t1 ++ [((0 : Int), ((0 : Int), ((150 : Int), (([] : List (Int × Int)), ()))))] ++ [((1 : Int), ((150 : Int), ((100 : Int), (([] : List (Int × Int)), ()))))]).length, 2, 250, 150, []⟩] := by
      simp [psOf, ptOf, baseOf, szOf]
    rw [this]
    exact hA3
  · rintro y ⟨z, rfl⟩
    exact Yld.ret rfl

theorem arenaApart_row (x : Val (rowTy ps_lodgelaw13_ArenaApart)) (_ : FitsL ps_lodgelaw13_ArenaApart x) : Yld (F_lodgelaw13_ArenaApart 100000 [] [] x.1) fun y => y.2.1 = true := arenaApart_law x.1

end Go.Proofs.YtnbpgehpjhifgaaDoor.Lx
