/-
  Texts of the proof, one behind the other.
-/
import Derived.Test.YtpekhdbkekiblaaGreatDoorLxPf
import Derived.Test.YtpekhdbkekiblaaGreatDoorProg
import Derived.KernelRfl
import Derived.WalkKit
import Derived.Deep.LoopGhost
import Derived.Deep.RegionLaw
import Derived.Lib.Walk
import Derived.Shelf.RegionOpenPlain
import Derived.Sort.WalkB12
import Derived.Shelf.Spec.SlicesInsert
import Derived.Lib.AppendZerosOnto
import Derived.OwnWalk
import Derived.Lib.AppendZeros
import Derived.LaidEql
import Derived.Stop.Asserts
import Derived.Lib.ReflectliteSlice
import Derived.RowKitTokens
import Derived.Handy
import Derived.Laws.Externs

/-
  slices.Insert at a slice type, walked.
-/
namespace Go.Proofs.LxLst.I68
open Go Go.Eng Go.RowKit Go.Lib

theorem underS : Tryz.prog.underlying 118 = some (.slice 148) := by kernel_rfl
theorem infoE : (Tryz.prog.info? 148).map (fun i => (i.zero, i.size, i.bytes)) = some (some (.pointer none), 1, 8) := by kernel_rfl
theorem mixed' : Tryz.prog.follows .mixedOrders = true := by kernel_rfl
theorem sizeE : ∀ w, (Go.sizeOf 148).run Tryz.prog w = .ok 1 w := by
  obtain ⟨i0, hi0, hz0, hz1, hz2⟩ := info_parts infoE
  intro w
  simp [sizeOf, typeInfo, hi0, hz1]

set_option maxHeartbeats 4000000 in
set_option maxRecDepth 100000 in
/-- at the end, with room -/
theorem endRoom {w : World} {n cap m capy b off vb voff : Nat} {G : List Value} {cs : Array Value} {T : TypeId} (hm : 0 < m) (hg : n + m ≤ cap) (hbig : (n + m) * (8 + 1) ≤ 1099511627776) (hGl : G.length = m * 1) (hG1 : ∀ v, v ∈ G → v.oneCell' = true)
    (hvs : ∀ (j : Nat) v, G[j]? = some v → w.cell? ⟨vb, voff + j, none⟩ = some v) (hh : w.heap[b]? = some (.cells cs T (0, 0))) (hroom : off + cap * 1 ≤ cs.size) :
    Calls Tryz.prog 68 #[.slice (some ⟨b, off, none⟩) n cap, .int .i64 n, .slice (some ⟨vb, voff, none⟩) m capy] w fun e w' => e = .returned (.slice (some ⟨b, off, none⟩) (n + m) cap) ∧ w' = w.setCells b (off + n * 1) G := by
  have mixed := mixed'
  have t62 := underS
  obtain ⟨i0, hi0, hz0, hz1, hz2⟩ := info_parts infoE
  have hrun : ∀ ty, (Builtin.append_ #[118, 118] ty #[.slice (some ⟨b, off, none⟩) n cap, .slice (some ⟨vb, voff, none⟩) m capy]).run Tryz.prog w = .ok (.slice (some ⟨b, off, none⟩) (n + m) cap) (w.setCells b (off + n * 1) G) := by
    intro ty
    have := run_append_room_cells (P := Tryz.prog) w 118 ty 148 i0 t62 hi0 b off n cap ⟨vb, voff, none⟩ m capy G (by rw [hz1]; exact hGl) (fun j u hj => by rw [Addr.add_lit]; exact hvs j u hj) hG1 hg
      (fun j hj => cell_isSome hh (by rw [hz1]; omega)) (fun j hj => frozen_no hh)
    rw [hz1] at this
    exact this
  have hz1' : ¬ ((m : Int) = 0) := by omega
  clear hvs hh hroom hG1 hGl
  try simp only [Nat.mul_one] at *
  go_enter Tryz.func68, Tryz.ntmps68
  go_wp2_with (at_builtin; refine Lib.wpList_append_run _ rfl _ _ _ _ rfl _ _ rfl rfl _ _ (hrun _) ?_)
  go_ret
  exact ⟨rfl, rfl⟩

set_option maxHeartbeats 4000000 in
set_option maxRecDepth 100000 in
/-- at the end, with none -/
theorem endGrow {w : World} {n cap m capy vb voff nc : Nat} {ad : Option Addr} {w1 : World} (hm : 0 < m) (hnc : n ≤ cap) (hg : cap < n + m) (hbig : (n + m) * (8 + 1) ≤ 1099511627776)
    (hrun : (Builtin.append_ #[118, 118] 118 #[.slice ad n cap, .slice (some ⟨vb, voff, none⟩) m capy]).run Tryz.prog w = .ok (.slice (some ⟨w.heap.size, 0, none⟩) (n + m) nc) w1) :
    Calls Tryz.prog 68 #[.slice ad n cap, .int .i64 n, .slice (some ⟨vb, voff, none⟩) m capy] w fun e w' => e = .returned (.slice (some ⟨w.heap.size, 0, none⟩) (n + m) nc) ∧ w' = w1 := by
  have mixed := mixed'
  have t62 := underS
  have hz1' : ¬ ((m : Int) = 0) := by omega
  try simp only [Nat.mul_one] at *
  go_enter Tryz.func68, Tryz.ntmps68
  cases ad with
  | none =>
    go_wp2_with (at_builtin; refine Lib.wpList_append_run _ rfl _ _ _ _ rfl _ _ rfl rfl _ _ hrun ?_)
    all_goals (go_ret; exact ⟨rfl, rfl⟩)
  | some a =>
    obtain ⟨ab, ao, asp⟩ := a
    go_wp2_with (at_builtin; refine Lib.wpList_append_run _ rfl _ _ _ _ rfl _ _ rfl rfl _ _ hrun ?_)
    all_goals (go_ret; exact ⟨rfl, rfl⟩)

set_option maxHeartbeats 4000000 in
set_option maxRecDepth 100000 in
/-- within, with room -/
theorem shift {w : World} {n cap m capy b off i vb voff : Nat} {F G : List Value} {cs csv : Array Value} {T Tv : TypeId} (hm : 0 < m) (hi : i < n) (hg : n + m ≤ cap) (hbig : (n + m) * (8 + 1) ≤ 1099511627776) (hFl : F.length = n * 1) (hF1 : ∀ v, v ∈ F → v.oneCell' = true)
    (hGl : G.length = m * 1) (hG1 : ∀ v, v ∈ G → v.oneCell' = true) (hat : ∀ (j : Nat) v, F[j]? = some v → cs[off + j]? = some v)
    (hatv : ∀ (j : Nat) v, G[j]? = some v → csv[voff + j]? = some v) (hh : w.heap[b]? = some (.cells cs T (0, 0))) (hhv : w.heap[vb]? = some (.cells csv Tv (0, 0))) (hvb : vb ≠ b) (hroom : off + cap * 1 ≤ cs.size) :
    Calls Tryz.prog 68 #[.slice (some ⟨b, off, none⟩) n cap, .int .i64 i, .slice (some ⟨vb, voff, none⟩) m capy] w fun e w' => e = .returned (.slice (some ⟨b, off, none⟩) (n + m) cap) ∧
      w' = (w.drew.setCells b (off + (i + m) * 1) (F.drop (i * 1))).setCells b (off + i * 1) G := by
  have mixed := mixed'
  have t62 := underS
  obtain ⟨i0, hi0, hz0, hz1, hz2⟩ := info_parts infoE
  have hz1' : ¬ ((m : Int) = 0) := by omega
  have hz2' : ¬ ((i : Int) = (n : Int)) := by omega
  have hov : ∀ lb cb, (callFunc 115 #[.slice (some ⟨vb, voff, none⟩) m capy, .slice (some ⟨b, off + (i + m) * 1, none⟩) lb cb]).run Tryz.prog w = .ok (.value (.bool false)) w := fun lb cb => by
    rw [run_callFunc_extern Tryz.func115 (by kernel_rfl) (by kernel_rfl) (by kernel_rfl) (e := Extern.SlicesOverlaps.overlaps #[118, 118] #[4]) (by kernel_rfl),
      Lib.run_overlaps_apart w 118 4 148 underS 1 sizeE ⟨vb, voff, none⟩ ⟨b, off + (i + m) * 1, none⟩ m capy lb cb hvb Tv T csv.size cs.size (by simp [World.shape?, hhv]) (by simp [World.shape?, hh]) (by omega) (frozen_no hhv) (frozen_no hhv)]
    rfl
  have hdl : (F.drop (i * 1)).length = (n - i) * 1 := by rw [List.length_drop, hFl]; omega
  have hw1 : IntKind.i64.wrap ((i : Int) + (m : Int)) = (i : Int) + (m : Int) := by rw [IntKind.wrap_i64]; omega
  have hw2 : IntKind.i64.wrap ((n : Int) + (m : Int)) = (n : Int) + (m : Int) := by rw [IntKind.wrap_i64]; omega
  have hb1 : (0 : Int) ≤ (i : Int) + (m : Int) := by omega
  have hin : i ≤ n := by omega
  have htn : ((i : Int) + (m : Int)).toNat = i + m := by omega
  have hb2 : ¬ (cap = i + m) := by omega
  have hb3 : (i : Int) ≤ (n : Int) + (m : Int) := by omega
  have hb4 : ¬ (cap = i) := by omega
  have hcp1 : ∀ ty dc sc, (Builtin.copy_ #[118, 118] ty #[.slice (some ⟨b, off + (i + m) * 1, none⟩) (n + m - (i + m)) dc, .slice (some ⟨b, off + i * 1, none⟩) (n + m - i) sc]).run Tryz.prog w.drew = .ok (goInt (min (n + m - i) (n + m - (i + m)) : Nat)) (w.drew.setCells b (off + (i + m) * 1) (F.drop (i * 1))) := fun ty dc sc =>
    Go.Eng.run_copy_row (cs := cs) (T := T) w.drew t62 hi0 hz1 (by rw [hdl, Nat.min_def]; split <;> omega) (fun j v hj => by
      rw [Addr.add_lit]
      show w.cell? _ = _
      rw [cell?_cells hh, Nat.add_assoc]
      exact hat _ v (by rwa [List.getElem?_drop] at hj)) (show w.drew.heap[b]? = _ from hh) (by rw [hdl]; omega) (fun v hv => hF1 v (List.mem_of_mem_drop hv))
  obtain ⟨W1, hW1⟩ : ∃ W1, W1 = w.drew.setCells b (off + (i + m) * 1) (F.drop (i * 1)) := ⟨_, rfl⟩
  obtain ⟨g1, g2, g3, g4⟩ := heap_setCells (F.drop (i * 1)) (off + (i + m) * 1) w.drew cs (show w.drew.heap[b]? = _ from hh)
  rw [← hW1] at g1 g2 g3 g4 hcp1
  have hcp2 : ∀ (W : World), W.heap = W1.heap → ∀ ty dc, (Builtin.copy_ #[118, 118] ty #[.slice (some ⟨b, off + i * 1, none⟩) (n + m - i) dc, .slice (some ⟨vb, voff, none⟩) m capy]).run Tryz.prog W = .ok (goInt (min m (n + m - i) : Nat)) (W.setCells b (off + i * 1) G) := fun W hWh ty dc =>
    Go.Eng.run_copy_row (cs := wrAt cs (off + (i + m) * 1) (F.drop (i * 1))) (T := T) W t62 hi0 hz1 (by rw [hGl, Nat.min_def]; split <;> omega) (fun j v hj => by
      have e1 : W.cell? ⟨vb, voff + j, none⟩ = W1.cell? ⟨vb, voff + j, none⟩ := cell?_heap vb (voff + j) (by rw [hWh])
      have e2 : W1.cell? ⟨vb, voff + j, none⟩ = w.drew.cell? ⟨vb, voff + j, none⟩ := cell?_heap vb (voff + j) (g3 vb hvb)
      rw [Addr.add_lit, e1, e2]
      show w.cell? _ = _
      rw [cell?_cells hhv]
      exact hatv j v hj) (by rw [hWh]; exact g1) (by rw [wrAt_size, hGl]; omega) hG1
  clear g1 g2 g3 g4 hat hatv hh hhv hroom hF1 hG1 hFl hGl hdl
  try simp only [Nat.mul_one] at *
  go_enter Tryz.func68, Tryz.ntmps68
  go_wp2_with (simp only [hov])
  go_region_law_o (refine Go.Proofs.step_copy_runI rfl _ _ 118 118 rfl _ _ (by simp [Act.eval, Act.put]) (by simp [Act.eval, Act.put]) (hcp1 _ _ _) ?_)
  go_wp2_with (at_builtin; refine Go.Proofs.wpList_copy_runI _ rfl _ _ 118 118 rfl _ _ rfl rfl (hcp2 _ rfl _ _) ?_)
  go_ret
  first | exact ⟨rfl, rfl⟩ | exact ⟨rfl, by rw [hW1]⟩

set_option maxHeartbeats 4000000 in
set_option maxRecDepth 100000 in
/-- within, with none -/
theorem grow {w : World} {n cap m capy b off i vb voff : Nat} {F G : List Value} {cs csv : Array Value} {T Tv : TypeId} (hm : 0 < m) (hi : i < n) (hnc : n ≤ cap) (hg : cap < n + m) (hbig : (n + m) * (8 + 1) ≤ 1099511627776) (hFl : F.length = n * 1) (hF1 : ∀ v, v ∈ F → v.oneCell' = true)
    (hGl : G.length = m * 1) (hG1 : ∀ v, v ∈ G → v.oneCell' = true) (hat : ∀ (j : Nat) v, F[j]? = some v → cs[off + j]? = some v)
    (hatv : ∀ (j : Nat) v, G[j]? = some v → csv[voff + j]? = some v) (hh : w.heap[b]? = some (.cells cs T (0, 0))) (hhv : w.heap[vb]? = some (.cells csv Tv (0, 0))) :
    ∃ (N : Nat) (ROW : Array Value), n + m ≤ N ∧ ROW.size = N * 1 ∧ (∀ (j : Nat), j < i * 1 → ROW[j]? = F[j]?) ∧
    Calls Tryz.prog 68 #[.slice (some ⟨b, off, none⟩) n cap, .int .i64 i, .slice (some ⟨vb, voff, none⟩) m capy] w fun e w' => e = .returned (.slice (some ⟨w.heap.size, 0, none⟩) (n + m) N) ∧
      w' = (((w.alloc (.cells ROW 148)).drew.setCells w.heap.size (i * 1) G).drew).setCells w.heap.size ((i + m) * 1) (F.drop (i * 1)) := by
  have mixed := mixed'
  have t62 := underS
  have tint : Tryz.prog.underlying 3 = some (.int .i64) := by kernel_rfl
  obtain ⟨i0, hi0, hz0, hz1, hz2⟩ := info_parts infoE
  have hz1' : ¬ ((m : Int) = 0) := by omega
  have hz2' : ¬ ((i : Int) = (n : Int)) := by omega
  have hz3 : (cap : Int) < (n : Int) + (m : Int) := by omega
  have hkk : (n : Int) + (m : Int) - (i : Int) = ((n + m - i : Nat) : Int) := by omega
  have hik : i + (n + m - i) = n + m := by omega
  have hbw : b < w.heap.size := (Array.getElem?_eq_some_iff.1 hh).1
  have hvw : vb < w.heap.size := (Array.getElem?_eq_some_iff.1 hhv).1
  have htl : (F.take (i * 1)).length = i * 1 := by rw [List.length_take, hFl]; omega
  have hold : (Builtin.firstCells i0.size i (.slice (some ⟨b, off, none⟩) i cap)).run Tryz.prog w.drew = .ok (F.take (i * 1)).toArray w.drew := by
    rw [hz1]
    exact run_firstCells_some w.drew 1 i ⟨b, off, none⟩ i cap (F.take (i * 1)) htl (fun j v hj => by
      rw [Addr.add_lit]
      rw [List.getElem?_take] at hj
      split at hj
      · show w.cell? _ = _
        rw [cell?_cells hh]
        exact hat j v hj
      · cases hj)
  have hrz : ∀ ty, (Builtin.append_ #[118, 3] ty #[.slice (some ⟨b, off, none⟩) i cap, .int .i64 ((n : Int) + (m : Int) - (i : Int))]).run Tryz.prog w =
      .ok (.slice (some ⟨w.heap.size, 0, none⟩) (n + m) (grownCap w (n + m) cap 148)) (w.drew.alloc (.cells ((F.take (i * 1)).toArray ++ Builtin.zeroCells (.pointer none : Value).cells (n + m - i) ++ Builtin.zeroCells (.pointer none : Value).cells (grownCap w (n + m) cap 148 - (n + m))) 148)) := fun ty => by
    have h := Lib.run_append_grow_zeros w 118 3 ty 148 i0 _ .i64 .i64 t62 tint hi0 hz0 (some ⟨b, off, none⟩) i cap (F.take (i * 1)) hold (n + m - i) (by omega) (by omega) (by omega) (by omega) (by rw [hz2]; omega) (by rw [hz2, hik]; exact growslice_fits hg (by omega))
    rw [hik] at h
    rw [hkk]
    exact h
  obtain ⟨N, hN⟩ : ∃ N, N = grownCap w (n + m) cap 148 := ⟨_, rfl⟩
  obtain ⟨ROW, hROW⟩ : ∃ ROW : Array Value, ROW = (F.take (i * 1)).toArray ++ Builtin.zeroCells (.pointer none : Value).cells (n + m - i) ++ Builtin.zeroCells (.pointer none : Value).cells (N - (n + m)) := ⟨_, rfl⟩
  have hGn : n + m ≤ N := by rw [hN]; exact grownCap_ge w _ _ _
  rw [← hN] at hrz
  rw [← hROW] at hrz
  have hRs : ROW.size = N * 1 := by
    rw [hROW]
    simp only [Array.size_append, List.size_toArray, size_zeroCells, htl]
    show i * 1 + (n + m - i) * 1 + (N - (n + m)) * 1 = N * 1
    omega
  have hRt : ∀ (j : Nat), j < i * 1 → ROW[j]? = F[j]? := by
    intro j hj
    rw [hROW, ← Array.getElem?_toList]
    simp only [Array.toList_append, List.append_assoc]
    rw [List.getElem?_append_left (by show j < (F.take (i * 1)).length; rw [htl]; exact hj), List.getElem?_take_of_lt hj]
  refine ⟨N, ROW, hGn, hRs, hRt, ?_⟩
  obtain ⟨W1, hW1⟩ : ∃ W1, W1 = w.drew.alloc (.cells ROW 148) := ⟨_, rfl⟩
  rw [← hW1] at hrz
  have hh1 : W1.heap[w.heap.size]? = some (.cells ROW 148 (0, 0)) := by rw [hW1]; exact heap_push_new (w := w) (w' := w.drew.alloc (.cells ROW 148)) rfl
  have hho : ∀ k, k < w.heap.size → W1.heap[k]? = w.heap[k]? := fun k hk => by rw [hW1]; exact heap_push_old (w := w) (w' := w.drew.alloc (.cells ROW 148)) rfl k hk
  have hdl : (F.drop (i * 1)).length = (n - i) * 1 := by rw [List.length_drop, hFl]; omega
  have hcpA : ∀ (W : World), W.heap = W1.heap → ∀ ty dc, (Builtin.copy_ #[118, 118] ty #[.slice (some ⟨w.heap.size, i * 1, none⟩) (n + m - i) dc, .slice (some ⟨vb, voff, none⟩) m capy]).run Tryz.prog W = .ok (goInt (min m (n + m - i) : Nat)) (W.setCells w.heap.size (i * 1) G) := fun W hWh ty dc =>
    Go.Eng.run_copy_row (cs := ROW) (T := 148) W t62 hi0 hz1 (by rw [hGl, Nat.min_def]; split <;> omega) (fun j v hj => by
      have e1 : W.cell? ⟨vb, voff + j, none⟩ = w.cell? ⟨vb, voff + j, none⟩ := cell?_heap vb (voff + j) (by rw [hWh]; exact hho vb hvw)
      rw [Addr.add_lit, e1, cell?_cells hhv]
      exact hatv j v hj) (by rw [hWh]; exact hh1) (by rw [hRs, hGl]; omega) hG1
  obtain ⟨g1, g2, g3, g4⟩ := heap_setCells G (i * 1) W1 ROW hh1
  have hcpB : ∀ (W : World), W.heap = (W1.setCells w.heap.size (i * 1) G).heap → ∀ ty dc sc, (Builtin.copy_ #[118, 118] ty #[.slice (some ⟨w.heap.size, (i + m) * 1, none⟩) (n + m - (i + m)) dc, .slice (some ⟨b, off + i * 1, none⟩) (n - i) sc]).run Tryz.prog W = .ok (goInt (min (n - i) (n + m - (i + m)) : Nat)) (W.setCells w.heap.size ((i + m) * 1) (F.drop (i * 1))) := fun W hWh ty dc sc =>
    Go.Eng.run_copy_row (cs := wrAt ROW (i * 1) G) (T := 148) W t62 hi0 hz1 (by rw [hdl, Nat.min_def]; split <;> omega) (fun j v hj => by
      have e1 : W.cell? ⟨b, off + i * 1 + j, none⟩ = w.cell? ⟨b, off + i * 1 + j, none⟩ := cell?_heap b _ (by rw [hWh, g3 b (by omega)]; exact hho b hbw)
      rw [Addr.add_lit, e1, cell?_cells hh, Nat.add_assoc]
      exact hat _ v (by rwa [List.getElem?_drop] at hj)) (by rw [hWh]; exact g1) (by rw [wrAt_size, hRs, hdl]; omega) (fun v hv => hF1 v (List.mem_of_mem_drop hv))
  have hGi : ¬ (N = i) := by omega
  have hGim : ¬ (N = i + m) := by omega
  have hci : ¬ (cap = i) := by omega
  subst hW1
  have hE1 : ((w.alloc (.cells ROW 148)).drew).heap = (w.drew.alloc (.cells ROW 148)).heap := rfl
  have hE2 : (((w.alloc (.cells ROW 148)).drew.setCells w.heap.size (i * 1) G).drew).heap = ((w.drew.alloc (.cells ROW 148)).setCells w.heap.size (i * 1) G).heap := rfl
  have hw1 : IntKind.i64.wrap ((i : Int) + (m : Int)) = (i : Int) + (m : Int) := by rw [IntKind.wrap_i64]; omega
  have hw2 : IntKind.i64.wrap ((n : Int) + (m : Int)) = (n : Int) + (m : Int) := by rw [IntKind.wrap_i64]; omega
  have hw3 : IntKind.i64.wrap ((n : Int) + (m : Int) - (i : Int)) = (n : Int) + (m : Int) - (i : Int) := by rw [IntKind.wrap_i64]; omega
  have hb1 : (0 : Int) ≤ (i : Int) + (m : Int) := by omega
  have hin : i ≤ n := by omega
  have htn : ((i : Int) + (m : Int)).toNat = i + m := by omega
  have hb3 : (i : Int) ≤ (n : Int) := by omega
  have hic : i ≤ cap := by omega
  clear hkk hik hold hROW hN hRs hRt hh hhv hat hatv hF1 hG1 hFl hGl hdl g1 g2 g3 g4 hh1 hho htl
  try simp only [Nat.mul_one] at *
  go_enter Tryz.func68, Tryz.ntmps68
  go_wp2_with (first
    | (at_builtin; refine Lib.wpList_append_run _ rfl _ _ _ _ rfl _ _ rfl rfl _ _ (hrz _) ?_)
    | (at_builtin; refine Go.Proofs.wpList_copy_runI _ rfl _ _ 118 118 rfl _ _ rfl rfl (hcpA _ hE1 _ _) ?_))
  go_region_law_o (refine Go.Proofs.step_copy_runI rfl _ _ 118 118 rfl (.slice (some ⟨w.heap.size, i + m, none⟩) (n + m - (i + m)) (N - (i + m))) (.slice (some ⟨b, off + i, none⟩) (n - i) (cap - i)) (by simp [Act.eval, Act.put]) (by simp [Act.eval, Act.put]) (hcpB _ hE2 _ _ _) ?_)
  go_wp2
  go_ret
  exact ⟨rfl, rfl⟩

theorem ok : LstOK Tryz.prog 68 (.ins 1 8) := by
  intro w n ad cap F i m ay capy G hrow hrowy hne hm hin hbig
  obtain ⟨hnc, hFl, hF1, hpl⟩ := hrow
  obtain ⟨hmc, hGl, hG1, hply⟩ := hrowy
  rcases hply with h0 | ⟨vb, voff, csv, Tv, rfl, hhv, hroomv, hatv⟩
  · omega
  obtain ⟨i0, hi0, hz0, hz1, hz2⟩ := info_parts infoE
  have hvs : ∀ (j : Nat) v, G[j]? = some v → w.cell? ⟨vb, voff + j, none⟩ = some v := fun j v hj => by rw [cell?_cells hhv]; exact hatv j v hj
  have hlen : (F.take (i * 1) ++ G ++ F.drop (i * 1)).length = (n + m) * 1 := by
    simp only [List.length_append, List.length_take, List.length_drop]
    omega
  by_cases hi : i = n
  · subst hi
    have hF' : F.take (i * 1) ++ G ++ F.drop (i * 1) = F ++ G := by
      rw [← hFl, List.take_length, List.drop_length, List.append_nil]
    rw [hF'] at hlen ⊢
    by_cases hg : i + m ≤ cap
    · rcases hpl with h0 | ⟨b, off, cs, T, rfl, hh, hroom, hat⟩
      · omega
      refine (endRoom hm hg hbig hGl hG1 hvs hh hroom).mono ?_
      rintro e w' ⟨rfl, rfl⟩
      obtain ⟨g1, g2, g3, g4⟩ := heap_setCells G (off + i * 1) w cs hh
      refine ⟨_, rfl, g4, hlen, cap, hg, .inl ⟨b, off, cs, _, T, rfl, hh, rfl, Nat.le_refl _, by omega, g2, g1, by rw [wrAt_size], g3, fun k x hk => ?_⟩⟩
      rw [List.getElem?_append] at hk
      split at hk
      · rename_i h1
        rw [wrAt_out _ _ _ _ (.inl (by omega))]
        exact hat k x hk
      · rename_i h1
        have hkl := (List.getElem?_eq_some_iff.1 hk).1
        rw [hFl] at hk hkl h1
        rw [show off + k = off + i * 1 + (k - i * 1) from by omega, wrAt_in _ _ _ _ hkl (by rw [hGl] at hkl; omega)]
        exact hk
    · have hFr : Reads w ((.hd 1) : Ty).size i (.slice ad i cap) F := reads_at (by rw [hFl]; rfl) fun hn0 => by
        rcases hpl with h0 | ⟨b, off, cs, T, rfl, hh, hroom, hat⟩
        · omega
        · exact ⟨b, off, rfl, fun j v hj => by rw [cell?_cells hh]; exact hat j v hj⟩
      have hGr : Reads w ((.hd 1) : Ty).size m (.slice (some ⟨vb, voff, none⟩) m capy) G := reads_at (by rw [hGl]; rfl) fun _ => ⟨vb, voff, rfl, hvs⟩
      obtain ⟨nc, w1, hr, hnc', hheap, hio⟩ := run_append_new (P := Tryz.prog) w (ty := 118) underS hi0 hz0 (sz := ((.hd 1) : Ty).size) (by rw [hz1]; rfl) rfl rfl hFr (by rw [hFl]; rfl) hGr (by rw [hGl]; rfl) (by omega) (by rw [hz2]; exact hbig)
      refine (endGrow hm hnc (by omega) hbig hr).mono ?_
      rintro e w' ⟨rfl, rfl⟩
      refine ⟨_, rfl, hio, hlen, nc, hnc', .inr ⟨_, _, hheap, rfl, ?_, fun k x hk => ?_⟩⟩
      · simp only [Array.size_append, List.size_toArray, size_zeroCells, hFl, hGl]
        show nc * 1 ≤ i * 1 + m * 1 + (nc - (i + m)) * 1
        omega
      · rw [← Array.getElem?_toList]
        simp only [Array.toList_append]
        exact List.getElem?_append_left (List.getElem?_eq_some_iff.1 hk).1 ▸ hk
  · have hlt : i < n := by omega
    rcases hpl with h0 | ⟨b, off, cs, T, rfl, hh, hroom, hat⟩
    · omega
    have hvb : vb ≠ b := fun e => hne b off vb voff rfl rfl (by omega) e.symm
    have htl : (F.take (i * 1)).length = i * 1 := by rw [List.length_take, hFl]; omega
    have hdl : (F.drop (i * 1)).length = (n - i) * 1 := by rw [List.length_drop, hFl]; omega
    by_cases hg : n + m ≤ cap
    · refine (shift (capy := capy) hm hlt hg hbig hFl hF1 hGl hG1 hat hatv hh hhv hvb hroom).mono ?_
      rintro e w' ⟨rfl, rfl⟩
      obtain ⟨g1, g2, g3, g4⟩ := heap_setCells (F.drop (i * 1)) (off + (i + m) * 1) w.drew cs (show w.drew.heap[b]? = _ from hh)
      obtain ⟨k1, k2, k3, k4⟩ := heap_setCells G (off + i * 1) (w.drew.setCells b (off + (i + m) * 1) (F.drop (i * 1))) _ g1
      refine ⟨_, rfl, IO.trans (show IO w _ from g4) k4, hlen, cap, hg, .inl ⟨b, off, cs, _, T, rfl, hh, rfl, Nat.le_refl _, by omega, k2.trans g2, k1, by rw [wrAt_size, wrAt_size], fun k hk => (k3 k hk).trans (g3 k hk), fun k x hk => ?_⟩⟩
      rw [List.append_assoc, List.getElem?_append] at hk
      split at hk
      · rename_i h1
        rw [htl] at h1
        rw [wrAt_out _ _ _ _ (.inl (by omega)), wrAt_out _ _ _ _ (.inl (by omega))]
        rw [List.getElem?_take_of_lt h1] at hk
        exact hat k x hk
      · rename_i h1
        rw [htl] at h1 hk
        rw [List.getElem?_append] at hk
        split at hk
        · rename_i h2
          rw [show off + k = off + i * 1 + (k - i * 1) from by omega, wrAt_in _ _ _ _ h2 (by rw [wrAt_size]; rw [hGl] at h2; omega)]
          exact hk
        · rename_i h2
          rw [hGl] at h2 hk
          have hkl := (List.getElem?_eq_some_iff.1 hk).1
          rw [wrAt_out _ _ _ _ (.inr (by rw [hGl]; omega)), show off + k = off + (i + m) * 1 + (k - i * 1 - m * 1) from by omega, wrAt_in _ _ _ _ hkl (by rw [hdl] at hkl; omega)]
          exact hk
    · obtain ⟨N, ROW, hN, hRs, hRt, hcall⟩ := grow (capy := capy) hm hlt hnc (by omega) hbig hFl hF1 hGl hG1 hat hatv hh hhv
      refine hcall.mono ?_
      rintro e w' ⟨rfl, rfl⟩
      have hh1 : (w.alloc (.cells ROW 148)).drew.heap[w.heap.size]? = some (.cells ROW 148 (0, 0)) := heap_push_new (w := w) (w' := w.alloc (.cells ROW 148)) rfl
      have hho : ∀ k, k < w.heap.size → (w.alloc (.cells ROW 148)).drew.heap[k]? = w.heap[k]? := fun k hk => heap_push_old (w := w) (w' := w.alloc (.cells ROW 148)) rfl k hk
      obtain ⟨g1, g2, g3, g4⟩ := heap_setCells G (i * 1) (w.alloc (.cells ROW 148)).drew ROW hh1
      obtain ⟨k1, k2, k3, k4⟩ := heap_setCells (F.drop (i * 1)) ((i + m) * 1) ((w.alloc (.cells ROW 148)).drew.setCells w.heap.size (i * 1) G).drew _ g1
      refine ⟨_, rfl, IO.trans (show IO w (w.alloc (.cells ROW 148)).drew from ⟨rfl, rfl, rfl⟩) (IO.trans g4 k4), hlen, N, hN, .inr ⟨wrAt (wrAt ROW (i * 1) G) ((i + m) * 1) (F.drop (i * 1)), 148, ?_, rfl, ?_, fun k x hk => ?_⟩⟩
      · have hsz : (((w.alloc (.cells ROW 148)).drew.setCells w.heap.size (i * 1) G).drew.setCells w.heap.size ((i + m) * 1) (F.drop (i * 1))).heap.size = w.heap.size + 1 := by
          rw [k2]
          show ((w.alloc (.cells ROW 148)).drew.setCells w.heap.size (i * 1) G).heap.size = _
          rw [g2]
          show (w.heap.push (.cells ROW 148 (0, 0))).size = _
          rw [Array.size_push]
        apply Array.ext_getElem?
        intro k
        rw [Array.getElem?_push]
        split
        · rename_i e
          rw [e]
          exact k1
        · rename_i e
          rw [k3 k e]
          show ((w.alloc (.cells ROW 148)).drew.setCells w.heap.size (i * 1) G).heap[k]? = _
          rw [g3 k e]
          rcases Nat.lt_or_ge k w.heap.size with hk | hk
          · exact hho k hk
          · have hs1 : (w.alloc (.cells ROW 148)).drew.heap.size = w.heap.size + 1 := by
              show (w.heap.push (.cells ROW 148 (0, 0))).size = _
              rw [Array.size_push]
            rw [Array.getElem?_eq_none hk, Array.getElem?_eq_none (by rw [hs1]; omega)]
      · rw [wrAt_size, wrAt_size, hRs]
        exact Nat.le_refl _
      · rw [List.append_assoc, List.getElem?_append] at hk
        split at hk
        · rename_i h1
          rw [htl] at h1
          rw [wrAt_out _ _ _ _ (.inl (by omega)), wrAt_out _ _ _ _ (.inl (by omega)), hRt k h1]
          rw [List.getElem?_take_of_lt h1] at hk
          exact hk
        · rename_i h1
          rw [htl] at h1 hk
          rw [List.getElem?_append] at hk
          split at hk
          · rename_i h2
            rw [wrAt_out _ _ _ _ (.inl (by rw [hGl] at h2; omega)), show k = i * 1 + (k - i * 1) from by omega, wrAt_in _ _ _ _ h2 (by rw [hGl] at h2; omega)]
            exact hk
          · rename_i h2
            rw [hGl] at h2 hk
            have hkl := (List.getElem?_eq_some_iff.1 hk).1
            have hk2 : k = (i + m) * 1 + (k - i * 1 - m * 1) := by omega
            rw [hk2, wrAt_in _ _ _ _ hkl (by rw [wrAt_size, hRs]; rw [hdl] at hkl; omega)]
            exact hk

end Go.Proofs.LxLst.I68

/-
  A number's bytes laid behind a slice.
-/
namespace Go.Proofs.LxLst.P65
open Go Go.Eng Go.RowKit Go.Proofs

theorem underS : Tryz.prog.underlying 23 = some (.slice 5) := by kernel_rfl
theorem infoE : ∃ i z, Tryz.prog.info? 5 = some i ∧ i.zero = some z ∧ i.size = 1 ∧ i.bytes = 1 ∧ z.cells.size = 1 := by
  have h : (Tryz.prog.info? 5).map (fun i => (i.size, i.bytes, i.zero.map (·.cells.size))) = some (1, 1, some 1) := by kernel_rfl
  cases hi : Tryz.prog.info? 5 with
  | none => rw [hi] at h; cases h
  | some i =>
    rw [hi] at h
    simp only [Option.map_some, Option.some.injEq, Prod.mk.injEq] at h
    obtain ⟨h1, h2, h3⟩ := h
    cases hz : i.zero with
    | none => rw [hz] at h3; cases h3
    | some z =>
      rw [hz] at h3
      injection h3 with h3
      exact ⟨i, z, rfl, hz, h1, h2, h3⟩

theorem b0 (x : Int) : u8 x = x % 256 := by simp [u8, IntKind.wrap_u8]
theorem b1 (x : Int) : u8 (shrI .i64 x 8) = x / 256 % 256 := by
  have : shrI .i64 x 8 = x / 256 := by simp [shrI, IntKind.bits, Int.fdiv_eq_ediv]
  rw [this, b0]
theorem b2 (x : Int) : u8 (shrI .i64 x 16) = x / 65536 % 256 := by
  have : shrI .i64 x 16 = x / 65536 := by simp [shrI, IntKind.bits, Int.fdiv_eq_ediv]
  rw [this, b0]
theorem b3 (x : Int) : u8 (shrI .i64 x 24) = x / 16777216 % 256 := by
  have : shrI .i64 x 24 = x / 16777216 := by simp [shrI, IntKind.bits, Int.fdiv_eq_ediv]
  rw [this, b0]

set_option maxRecDepth 1000000 in
set_option maxHeartbeats 4000000 in
theorem put4 {w : World} {n cap : Nat} {ad : Option Addr} (x : Int) {v : Value} {w2 : World} (hA : ∀ ty, (Builtin.append_ #[23, 23] ty #[.slice ad n cap, .slice (some ⟨w.heap.size, 0, none⟩) 4 4]).run Tryz.prog
      (w.alloc (.cells #[.int .u8 (x % 256), .int .u8 (x / 256 % 256), .int .u8 (x / 65536 % 256), .int .u8 (x / 16777216 % 256)] 5)) = .ok v w2) :
    Calls Tryz.prog 65 #[.slice ad n cap, .int .i64 x, .bool true] w fun e w' => e = .returned v ∧ w' = w2 := by
  go_enter Tryz.func65, Tryz.ntmps65
  go_wp2_with (at_builtin; refine Go.Lib.wpList_append_run _ rfl _ _ 23 23 rfl _ _ rfl rfl _ _ (hA _) ?_)
  go_ret
  exact ⟨rfl, rfl⟩

set_option maxRecDepth 1000000 in
set_option maxHeartbeats 4000000 in
theorem put1 {w : World} {n cap : Nat} {ad : Option Addr} (x : Int) {v : Value} {w2 : World} (hA : ∀ ty, (Builtin.append_ #[23, 23] ty #[.slice ad n cap, .slice (some ⟨w.heap.size, 0, none⟩) 1 1]).run Tryz.prog
      (w.alloc (.cells #[.int .u8 (x % 256)] 5)) = .ok v w2) :
    Calls Tryz.prog 65 #[.slice ad n cap, .int .i64 x, .bool false] w fun e w' => e = .returned v ∧ w' = w2 := by
  go_enter Tryz.func65, Tryz.ntmps65
  go_wp2_with (at_builtin; refine Go.Lib.wpList_append_run _ rfl _ _ 23 23 rfl _ _ rfl rfl _ _ (hA _) ?_)
  go_ret
  exact ⟨rfl, rfl⟩

theorem ok : LstOK Tryz.prog 65 (.app .put) := by
  intro w n ad cap F xs bs hrow hbs hmost
  obtain ⟨i, z, hi, hz, hsz, hby, hz1⟩ := infoE
  unfold appV at hbs
  split at hbs
  · rename_i x wd _
    injection hbs with hbs
    subst hbs
    cases wd with
    | true =>
      have hG : (putB x true).map (Value.int .u8) = [.int .u8 (x % 256), .int .u8 (x / 256 % 256), .int .u8 (x / 65536 % 256), .int .u8 (x / 16777216 % 256)] := by
        show [Value.int .u8 (u8 x), .int .u8 (u8 (shrI .i64 x 8)), .int .u8 (u8 (shrI .i64 x 16)), .int .u8 (u8 (shrI .i64 x 24))] = _
        rw [b1, b2, b3, b0]
      obtain ⟨v, w2, hA, hpost⟩ := append_post (ty := 0) (T0 := 5) underS hi hz hsz hby hz1 hrow rfl (show ((putB x true).map (Value.int .u8)).length = 4 from rfl) (by omega) (by rw [hG]; simp [Value.oneCell']) hmost
      rw [hG] at hA
      exact (put4 x (fun ty => hA)).mono fun e w' h => ⟨v, h.1, by rw [h.2]; exact hpost⟩
    | false =>
      have hG : (putB x false).map (Value.int .u8) = [.int .u8 (x % 256)] := by
        show [Value.int .u8 (u8 x)] = _
        rw [b0]
      obtain ⟨v, w2, hA, hpost⟩ := append_post (ty := 0) (T0 := 5) underS hi hz hsz hby hz1 hrow rfl (show ((putB x false).map (Value.int .u8)).length = 1 from rfl) (by omega) (by rw [hG]; simp [Value.oneCell']) hmost
      rw [hG] at hA
      exact (put1 x (fun ty => hA)).mono fun e w' h => ⟨v, h.1, by rw [h.2]; exact hpost⟩
  · rename_i h
    cases h
  · cases hbs

end Go.Proofs.LxLst.P65

/-
  slices.Insert at a slice type, walked.
-/
namespace Go.Proofs.LxLst.I186
open Go Go.Eng Go.RowKit Go.Lib

theorem underS : Tryz.prog.underlying 150 = some (.slice 154) := by kernel_rfl
theorem infoE : (Tryz.prog.info? 154).map (fun i => (i.zero, i.size, i.bytes)) = some (some (.agg #[.int .i64 0, .int .i64 0]), 2, 16) := by kernel_rfl
theorem mixed' : Tryz.prog.follows .mixedOrders = true := by kernel_rfl
theorem sizeE : ∀ w, (Go.sizeOf 154).run Tryz.prog w = .ok 2 w := by
  obtain ⟨i0, hi0, hz0, hz1, hz2⟩ := info_parts infoE
  intro w
  simp [sizeOf, typeInfo, hi0, hz1]

set_option maxHeartbeats 4000000 in
set_option maxRecDepth 100000 in
/-- at the end, with room -/
theorem endRoom {w : World} {n cap m capy b off vb voff : Nat} {G : List Value} {cs : Array Value} {T : TypeId} (hm : 0 < m) (hg : n + m ≤ cap) (hbig : (n + m) * (16 + 1) ≤ 1099511627776) (hGl : G.length = m * 2) (hG1 : ∀ v, v ∈ G → v.oneCell' = true)
    (hvs : ∀ (j : Nat) v, G[j]? = some v → w.cell? ⟨vb, voff + j, none⟩ = some v) (hh : w.heap[b]? = some (.cells cs T (0, 0))) (hroom : off + cap * 2 ≤ cs.size) :
    Calls Tryz.prog 186 #[.slice (some ⟨b, off, none⟩) n cap, .int .i64 n, .slice (some ⟨vb, voff, none⟩) m capy] w fun e w' => e = .returned (.slice (some ⟨b, off, none⟩) (n + m) cap) ∧ w' = w.setCells b (off + n * 2) G := by
  have mixed := mixed'
  have t62 := underS
  obtain ⟨i0, hi0, hz0, hz1, hz2⟩ := info_parts infoE
  have hrun : ∀ ty, (Builtin.append_ #[150, 150] ty #[.slice (some ⟨b, off, none⟩) n cap, .slice (some ⟨vb, voff, none⟩) m capy]).run Tryz.prog w = .ok (.slice (some ⟨b, off, none⟩) (n + m) cap) (w.setCells b (off + n * 2) G) := by
    intro ty
    have := run_append_room_cells (P := Tryz.prog) w 150 ty 154 i0 t62 hi0 b off n cap ⟨vb, voff, none⟩ m capy G (by rw [hz1]; exact hGl) (fun j u hj => by rw [Addr.add_lit]; exact hvs j u hj) hG1 hg
      (fun j hj => cell_isSome hh (by rw [hz1]; omega)) (fun j hj => frozen_no hh)
    rw [hz1] at this
    exact this
  have hz1' : ¬ ((m : Int) = 0) := by omega
  clear hvs hh hroom hG1 hGl
  try simp only [Nat.mul_one] at *
  go_enter Tryz.func186, Tryz.ntmps186
  go_wp2_with (at_builtin; refine Lib.wpList_append_run _ rfl _ _ _ _ rfl _ _ rfl rfl _ _ (hrun _) ?_)
  go_ret
  exact ⟨rfl, rfl⟩

set_option maxHeartbeats 4000000 in
set_option maxRecDepth 100000 in
/-- at the end, with none -/
theorem endGrow {w : World} {n cap m capy vb voff nc : Nat} {ad : Option Addr} {w1 : World} (hm : 0 < m) (hnc : n ≤ cap) (hg : cap < n + m) (hbig : (n + m) * (16 + 1) ≤ 1099511627776)
    (hrun : (Builtin.append_ #[150, 150] 150 #[.slice ad n cap, .slice (some ⟨vb, voff, none⟩) m capy]).run Tryz.prog w = .ok (.slice (some ⟨w.heap.size, 0, none⟩) (n + m) nc) w1) :
    Calls Tryz.prog 186 #[.slice ad n cap, .int .i64 n, .slice (some ⟨vb, voff, none⟩) m capy] w fun e w' => e = .returned (.slice (some ⟨w.heap.size, 0, none⟩) (n + m) nc) ∧ w' = w1 := by
  have mixed := mixed'
  have t62 := underS
  have hz1' : ¬ ((m : Int) = 0) := by omega
  try simp only [Nat.mul_one] at *
  go_enter Tryz.func186, Tryz.ntmps186
  cases ad with
  | none =>
    go_wp2_with (at_builtin; refine Lib.wpList_append_run _ rfl _ _ _ _ rfl _ _ rfl rfl _ _ hrun ?_)
    all_goals (go_ret; exact ⟨rfl, rfl⟩)
  | some a =>
    obtain ⟨ab, ao, asp⟩ := a
    go_wp2_with (at_builtin; refine Lib.wpList_append_run _ rfl _ _ _ _ rfl _ _ rfl rfl _ _ hrun ?_)
    all_goals (go_ret; exact ⟨rfl, rfl⟩)

set_option maxHeartbeats 4000000 in
set_option maxRecDepth 100000 in
/-- within, with room -/
theorem shift {w : World} {n cap m capy b off i vb voff : Nat} {F G : List Value} {cs csv : Array Value} {T Tv : TypeId} (hm : 0 < m) (hi : i < n) (hg : n + m ≤ cap) (hbig : (n + m) * (16 + 1) ≤ 1099511627776) (hFl : F.length = n * 2) (hF1 : ∀ v, v ∈ F → v.oneCell' = true)
    (hGl : G.length = m * 2) (hG1 : ∀ v, v ∈ G → v.oneCell' = true) (hat : ∀ (j : Nat) v, F[j]? = some v → cs[off + j]? = some v)
    (hatv : ∀ (j : Nat) v, G[j]? = some v → csv[voff + j]? = some v) (hh : w.heap[b]? = some (.cells cs T (0, 0))) (hhv : w.heap[vb]? = some (.cells csv Tv (0, 0))) (hvb : vb ≠ b) (hroom : off + cap * 2 ≤ cs.size) :
    Calls Tryz.prog 186 #[.slice (some ⟨b, off, none⟩) n cap, .int .i64 i, .slice (some ⟨vb, voff, none⟩) m capy] w fun e w' => e = .returned (.slice (some ⟨b, off, none⟩) (n + m) cap) ∧
      w' = (w.drew.setCells b (off + (i + m) * 2) (F.drop (i * 2))).setCells b (off + i * 2) G := by
  have mixed := mixed'
  have t62 := underS
  obtain ⟨i0, hi0, hz0, hz1, hz2⟩ := info_parts infoE
  have hz1' : ¬ ((m : Int) = 0) := by omega
  have hz2' : ¬ ((i : Int) = (n : Int)) := by omega
  have hov : ∀ lb cb, (callFunc 222 #[.slice (some ⟨vb, voff, none⟩) m capy, .slice (some ⟨b, off + (i + m) * 2, none⟩) lb cb]).run Tryz.prog w = .ok (.value (.bool false)) w := fun lb cb => by
    rw [run_callFunc_extern Tryz.func222 (by kernel_rfl) (by kernel_rfl) (by kernel_rfl) (e := Extern.SlicesOverlaps.overlaps #[150, 150] #[4]) (by kernel_rfl),
      Lib.run_overlaps_apart w 150 4 154 underS 2 sizeE ⟨vb, voff, none⟩ ⟨b, off + (i + m) * 2, none⟩ m capy lb cb hvb Tv T csv.size cs.size (by simp [World.shape?, hhv]) (by simp [World.shape?, hh]) (by omega) (frozen_no hhv) (frozen_no hhv)]
    rfl
  have hdl : (F.drop (i * 2)).length = (n - i) * 2 := by rw [List.length_drop, hFl]; omega
  have hw1 : IntKind.i64.wrap ((i : Int) + (m : Int)) = (i : Int) + (m : Int) := by rw [IntKind.wrap_i64]; omega
  have hw2 : IntKind.i64.wrap ((n : Int) + (m : Int)) = (n : Int) + (m : Int) := by rw [IntKind.wrap_i64]; omega
  have hb1 : (0 : Int) ≤ (i : Int) + (m : Int) := by omega
  have hin : i ≤ n := by omega
  have htn : ((i : Int) + (m : Int)).toNat = i + m := by omega
  have hb2 : ¬ (cap = i + m) := by omega
  have hb3 : (i : Int) ≤ (n : Int) + (m : Int) := by omega
  have hb4 : ¬ (cap = i) := by omega
  have hcp1 : ∀ ty dc sc, (Builtin.copy_ #[150, 150] ty #[.slice (some ⟨b, off + (i + m) * 2, none⟩) (n + m - (i + m)) dc, .slice (some ⟨b, off + i * 2, none⟩) (n + m - i) sc]).run Tryz.prog w.drew = .ok (goInt (min (n + m - i) (n + m - (i + m)) : Nat)) (w.drew.setCells b (off + (i + m) * 2) (F.drop (i * 2))) := fun ty dc sc =>
    Go.Eng.run_copy_row (cs := cs) (T := T) w.drew t62 hi0 hz1 (by rw [hdl, Nat.min_def]; split <;> omega) (fun j v hj => by
      rw [Addr.add_lit]
      show w.cell? _ = _
      rw [cell?_cells hh, Nat.add_assoc]
      exact hat _ v (by rwa [List.getElem?_drop] at hj)) (show w.drew.heap[b]? = _ from hh) (by rw [hdl]; omega) (fun v hv => hF1 v (List.mem_of_mem_drop hv))
  obtain ⟨W1, hW1⟩ : ∃ W1, W1 = w.drew.setCells b (off + (i + m) * 2) (F.drop (i * 2)) := ⟨_, rfl⟩
  obtain ⟨g1, g2, g3, g4⟩ := heap_setCells (F.drop (i * 2)) (off + (i + m) * 2) w.drew cs (show w.drew.heap[b]? = _ from hh)
  rw [← hW1] at g1 g2 g3 g4 hcp1
  have hcp2 : ∀ (W : World), W.heap = W1.heap → ∀ ty dc, (Builtin.copy_ #[150, 150] ty #[.slice (some ⟨b, off + i * 2, none⟩) (n + m - i) dc, .slice (some ⟨vb, voff, none⟩) m capy]).run Tryz.prog W = .ok (goInt (min m (n + m - i) : Nat)) (W.setCells b (off + i * 2) G) := fun W hWh ty dc =>
    Go.Eng.run_copy_row (cs := wrAt cs (off + (i + m) * 2) (F.drop (i * 2))) (T := T) W t62 hi0 hz1 (by rw [hGl, Nat.min_def]; split <;> omega) (fun j v hj => by
      have e1 : W.cell? ⟨vb, voff + j, none⟩ = W1.cell? ⟨vb, voff + j, none⟩ := cell?_heap vb (voff + j) (by rw [hWh])
      have e2 : W1.cell? ⟨vb, voff + j, none⟩ = w.drew.cell? ⟨vb, voff + j, none⟩ := cell?_heap vb (voff + j) (g3 vb hvb)
      rw [Addr.add_lit, e1, e2]
      show w.cell? _ = _
      rw [cell?_cells hhv]
      exact hatv j v hj) (by rw [hWh]; exact g1) (by rw [wrAt_size, hGl]; omega) hG1
  clear g1 g2 g3 g4 hat hatv hh hhv hroom hF1 hG1 hFl hGl hdl
  try simp only [Nat.mul_one] at *
  go_enter Tryz.func186, Tryz.ntmps186
  go_wp2_with (simp only [hov])
  go_region_law_o (refine Go.Proofs.step_copy_runI rfl _ _ 150 150 rfl _ _ (by simp [Act.eval, Act.put]) (by simp [Act.eval, Act.put]) (hcp1 _ _ _) ?_)
  go_wp2_with (at_builtin; refine Go.Proofs.wpList_copy_runI _ rfl _ _ 150 150 rfl _ _ rfl rfl (hcp2 _ rfl _ _) ?_)
  go_ret
  first | exact ⟨rfl, rfl⟩ | exact ⟨rfl, by rw [hW1]⟩

set_option maxHeartbeats 4000000 in
set_option maxRecDepth 100000 in
/-- within, with none -/
theorem grow {w : World} {n cap m capy b off i vb voff : Nat} {F G : List Value} {cs csv : Array Value} {T Tv : TypeId} (hm : 0 < m) (hi : i < n) (hnc : n ≤ cap) (hg : cap < n + m) (hbig : (n + m) * (16 + 1) ≤ 1099511627776) (hFl : F.length = n * 2) (hF1 : ∀ v, v ∈ F → v.oneCell' = true)
    (hGl : G.length = m * 2) (hG1 : ∀ v, v ∈ G → v.oneCell' = true) (hat : ∀ (j : Nat) v, F[j]? = some v → cs[off + j]? = some v)
    (hatv : ∀ (j : Nat) v, G[j]? = some v → csv[voff + j]? = some v) (hh : w.heap[b]? = some (.cells cs T (0, 0))) (hhv : w.heap[vb]? = some (.cells csv Tv (0, 0))) :
    ∃ (N : Nat) (ROW : Array Value), n + m ≤ N ∧ ROW.size = N * 2 ∧ (∀ (j : Nat), j < i * 2 → ROW[j]? = F[j]?) ∧
    Calls Tryz.prog 186 #[.slice (some ⟨b, off, none⟩) n cap, .int .i64 i, .slice (some ⟨vb, voff, none⟩) m capy] w fun e w' => e = .returned (.slice (some ⟨w.heap.size, 0, none⟩) (n + m) N) ∧
      w' = (((w.alloc (.cells ROW 154)).drew.setCells w.heap.size (i * 2) G).drew).setCells w.heap.size ((i + m) * 2) (F.drop (i * 2)) := by
  have mixed := mixed'
  have t62 := underS
  have tint : Tryz.prog.underlying 3 = some (.int .i64) := by kernel_rfl
  obtain ⟨i0, hi0, hz0, hz1, hz2⟩ := info_parts infoE
  have hz1' : ¬ ((m : Int) = 0) := by omega
  have hz2' : ¬ ((i : Int) = (n : Int)) := by omega
  have hz3 : (cap : Int) < (n : Int) + (m : Int) := by omega
  have hkk : (n : Int) + (m : Int) - (i : Int) = ((n + m - i : Nat) : Int) := by omega
  have hik : i + (n + m - i) = n + m := by omega
  have hbw : b < w.heap.size := (Array.getElem?_eq_some_iff.1 hh).1
  have hvw : vb < w.heap.size := (Array.getElem?_eq_some_iff.1 hhv).1
  have htl : (F.take (i * 2)).length = i * 2 := by rw [List.length_take, hFl]; omega
  have hold : (Builtin.firstCells i0.size i (.slice (some ⟨b, off, none⟩) i cap)).run Tryz.prog w.drew = .ok (F.take (i * 2)).toArray w.drew := by
    rw [hz1]
    exact run_firstCells_some w.drew 2 i ⟨b, off, none⟩ i cap (F.take (i * 2)) htl (fun j v hj => by
      rw [Addr.add_lit]
      rw [List.getElem?_take] at hj
      split at hj
      · show w.cell? _ = _
        rw [cell?_cells hh]
        exact hat j v hj
      · cases hj)
  have hrz : ∀ ty, (Builtin.append_ #[150, 3] ty #[.slice (some ⟨b, off, none⟩) i cap, .int .i64 ((n : Int) + (m : Int) - (i : Int))]).run Tryz.prog w =
      .ok (.slice (some ⟨w.heap.size, 0, none⟩) (n + m) (grownCap w (n + m) cap 154)) (w.drew.alloc (.cells ((F.take (i * 2)).toArray ++ Builtin.zeroCells (.agg #[.int .i64 0, .int .i64 0] : Value).cells (n + m - i) ++ Builtin.zeroCells (.agg #[.int .i64 0, .int .i64 0] : Value).cells (grownCap w (n + m) cap 154 - (n + m))) 154)) := fun ty => by
    have h := Lib.run_append_grow_zeros w 150 3 ty 154 i0 _ .i64 .i64 t62 tint hi0 hz0 (some ⟨b, off, none⟩) i cap (F.take (i * 2)) hold (n + m - i) (by omega) (by omega) (by omega) (by omega) (by rw [hz2]; omega) (by rw [hz2, hik]; exact growslice_fits hg (by omega))
    rw [hik] at h
    rw [hkk]
    exact h
  obtain ⟨N, hN⟩ : ∃ N, N = grownCap w (n + m) cap 154 := ⟨_, rfl⟩
  obtain ⟨ROW, hROW⟩ : ∃ ROW : Array Value, ROW = (F.take (i * 2)).toArray ++ Builtin.zeroCells (.agg #[.int .i64 0, .int .i64 0] : Value).cells (n + m - i) ++ Builtin.zeroCells (.agg #[.int .i64 0, .int .i64 0] : Value).cells (N - (n + m)) := ⟨_, rfl⟩
  have hGn : n + m ≤ N := by rw [hN]; exact grownCap_ge w _ _ _
  rw [← hN] at hrz
  rw [← hROW] at hrz
  have hRs : ROW.size = N * 2 := by
    rw [hROW]
    simp only [Array.size_append, List.size_toArray, size_zeroCells, htl]
    show i * 2 + (n + m - i) * 2 + (N - (n + m)) * 2 = N * 2
    omega
  have hRt : ∀ (j : Nat), j < i * 2 → ROW[j]? = F[j]? := by
    intro j hj
    rw [hROW, ← Array.getElem?_toList]
    simp only [Array.toList_append, List.append_assoc]
    rw [List.getElem?_append_left (by show j < (F.take (i * 2)).length; rw [htl]; exact hj), List.getElem?_take_of_lt hj]
  refine ⟨N, ROW, hGn, hRs, hRt, ?_⟩
  obtain ⟨W1, hW1⟩ : ∃ W1, W1 = w.drew.alloc (.cells ROW 154) := ⟨_, rfl⟩
  rw [← hW1] at hrz
  have hh1 : W1.heap[w.heap.size]? = some (.cells ROW 154 (0, 0)) := by rw [hW1]; exact heap_push_new (w := w) (w' := w.drew.alloc (.cells ROW 154)) rfl
  have hho : ∀ k, k < w.heap.size → W1.heap[k]? = w.heap[k]? := fun k hk => by rw [hW1]; exact heap_push_old (w := w) (w' := w.drew.alloc (.cells ROW 154)) rfl k hk
  have hdl : (F.drop (i * 2)).length = (n - i) * 2 := by rw [List.length_drop, hFl]; omega
  have hcpA : ∀ (W : World), W.heap = W1.heap → ∀ ty dc, (Builtin.copy_ #[150, 150] ty #[.slice (some ⟨w.heap.size, i * 2, none⟩) (n + m - i) dc, .slice (some ⟨vb, voff, none⟩) m capy]).run Tryz.prog W = .ok (goInt (min m (n + m - i) : Nat)) (W.setCells w.heap.size (i * 2) G) := fun W hWh ty dc =>
    Go.Eng.run_copy_row (cs := ROW) (T := 154) W t62 hi0 hz1 (by rw [hGl, Nat.min_def]; split <;> omega) (fun j v hj => by
      have e1 : W.cell? ⟨vb, voff + j, none⟩ = w.cell? ⟨vb, voff + j, none⟩ := cell?_heap vb (voff + j) (by rw [hWh]; exact hho vb hvw)
      rw [Addr.add_lit, e1, cell?_cells hhv]
      exact hatv j v hj) (by rw [hWh]; exact hh1) (by rw [hRs, hGl]; omega) hG1
  obtain ⟨g1, g2, g3, g4⟩ := heap_setCells G (i * 2) W1 ROW hh1
  have hcpB : ∀ (W : World), W.heap = (W1.setCells w.heap.size (i * 2) G).heap → ∀ ty dc sc, (Builtin.copy_ #[150, 150] ty #[.slice (some ⟨w.heap.size, (i + m) * 2, none⟩) (n + m - (i + m)) dc, .slice (some ⟨b, off + i * 2, none⟩) (n - i) sc]).run Tryz.prog W = .ok (goInt (min (n - i) (n + m - (i + m)) : Nat)) (W.setCells w.heap.size ((i + m) * 2) (F.drop (i * 2))) := fun W hWh ty dc sc =>
    Go.Eng.run_copy_row (cs := wrAt ROW (i * 2) G) (T := 154) W t62 hi0 hz1 (by rw [hdl, Nat.min_def]; split <;> omega) (fun j v hj => by
      have e1 : W.cell? ⟨b, off + i * 2 + j, none⟩ = w.cell? ⟨b, off + i * 2 + j, none⟩ := cell?_heap b _ (by rw [hWh, g3 b (by omega)]; exact hho b hbw)
      rw [Addr.add_lit, e1, cell?_cells hh, Nat.add_assoc]
      exact hat _ v (by rwa [List.getElem?_drop] at hj)) (by rw [hWh]; exact g1) (by rw [wrAt_size, hRs, hdl]; omega) (fun v hv => hF1 v (List.mem_of_mem_drop hv))
  have hGi : ¬ (N = i) := by omega
  have hGim : ¬ (N = i + m) := by omega
  have hci : ¬ (cap = i) := by omega
  subst hW1
  have hE1 : ((w.alloc (.cells ROW 154)).drew).heap = (w.drew.alloc (.cells ROW 154)).heap := rfl
  have hE2 : (((w.alloc (.cells ROW 154)).drew.setCells w.heap.size (i * 2) G).drew).heap = ((w.drew.alloc (.cells ROW 154)).setCells w.heap.size (i * 2) G).heap := rfl
  have hw1 : IntKind.i64.wrap ((i : Int) + (m : Int)) = (i : Int) + (m : Int) := by rw [IntKind.wrap_i64]; omega
  have hw2 : IntKind.i64.wrap ((n : Int) + (m : Int)) = (n : Int) + (m : Int) := by rw [IntKind.wrap_i64]; omega
  have hw3 : IntKind.i64.wrap ((n : Int) + (m : Int) - (i : Int)) = (n : Int) + (m : Int) - (i : Int) := by rw [IntKind.wrap_i64]; omega
  have hb1 : (0 : Int) ≤ (i : Int) + (m : Int) := by omega
  have hin : i ≤ n := by omega
  have htn : ((i : Int) + (m : Int)).toNat = i + m := by omega
  have hb3 : (i : Int) ≤ (n : Int) := by omega
  have hic : i ≤ cap := by omega
  clear hkk hik hold hROW hN hRs hRt hh hhv hat hatv hF1 hG1 hFl hGl hdl g1 g2 g3 g4 hh1 hho htl
  try simp only [Nat.mul_one] at *
  go_enter Tryz.func186, Tryz.ntmps186
  go_wp2_with (first
    | (at_builtin; refine Lib.wpList_append_run _ rfl _ _ _ _ rfl _ _ rfl rfl _ _ (hrz _) ?_)
    | (at_builtin; refine Go.Proofs.wpList_copy_runI _ rfl _ _ 150 150 rfl _ _ rfl rfl (hcpA _ hE1 _ _) ?_))
  go_region_law_o (refine Go.Proofs.step_copy_runI rfl _ _ 150 150 rfl (.slice (some ⟨w.heap.size, (i + m) * 2, none⟩) (n + m - (i + m)) (N - (i + m))) (.slice (some ⟨b, off + i * 2, none⟩) (n - i) (cap - i)) (by simp [Act.eval, Act.put]) (by simp [Act.eval, Act.put]) (hcpB _ hE2 _ _ _) ?_)
  go_wp2
  go_ret
  exact ⟨rfl, rfl⟩

theorem ok : LstOK Tryz.prog 186 (.ins 2 16) := by
  intro w n ad cap F i m ay capy G hrow hrowy hne hm hin hbig
  obtain ⟨hnc, hFl, hF1, hpl⟩ := hrow
  obtain ⟨hmc, hGl, hG1, hply⟩ := hrowy
  rcases hply with h0 | ⟨vb, voff, csv, Tv, rfl, hhv, hroomv, hatv⟩
  · omega
  obtain ⟨i0, hi0, hz0, hz1, hz2⟩ := info_parts infoE
  have hvs : ∀ (j : Nat) v, G[j]? = some v → w.cell? ⟨vb, voff + j, none⟩ = some v := fun j v hj => by rw [cell?_cells hhv]; exact hatv j v hj
  have hlen : (F.take (i * 2) ++ G ++ F.drop (i * 2)).length = (n + m) * 2 := by
    simp only [List.length_append, List.length_take, List.length_drop]
    omega
  by_cases hi : i = n
  · subst hi
    have hF' : F.take (i * 2) ++ G ++ F.drop (i * 2) = F ++ G := by
      rw [← hFl, List.take_length, List.drop_length, List.append_nil]
    rw [hF'] at hlen ⊢
    by_cases hg : i + m ≤ cap
    · rcases hpl with h0 | ⟨b, off, cs, T, rfl, hh, hroom, hat⟩
      · omega
      refine (endRoom hm hg hbig hGl hG1 hvs hh hroom).mono ?_
      rintro e w' ⟨rfl, rfl⟩
      obtain ⟨g1, g2, g3, g4⟩ := heap_setCells G (off + i * 2) w cs hh
      refine ⟨_, rfl, g4, hlen, cap, hg, .inl ⟨b, off, cs, _, T, rfl, hh, rfl, Nat.le_refl _, by omega, g2, g1, by rw [wrAt_size], g3, fun k x hk => ?_⟩⟩
      rw [List.getElem?_append] at hk
      split at hk
      · rename_i h1
        rw [wrAt_out _ _ _ _ (.inl (by omega))]
        exact hat k x hk
      · rename_i h1
        have hkl := (List.getElem?_eq_some_iff.1 hk).1
        rw [hFl] at hk hkl h1
        rw [show off + k = off + i * 2 + (k - i * 2) from by omega, wrAt_in _ _ _ _ hkl (by rw [hGl] at hkl; omega)]
        exact hk
    · have hFr : Reads w ((.st (.pair (.int .i64) (.int .i64))) : Ty).size i (.slice ad i cap) F := reads_at (by rw [hFl]; rfl) fun hn0 => by
        rcases hpl with h0 | ⟨b, off, cs, T, rfl, hh, hroom, hat⟩
        · omega
        · exact ⟨b, off, rfl, fun j v hj => by rw [cell?_cells hh]; exact hat j v hj⟩
      have hGr : Reads w ((.st (.pair (.int .i64) (.int .i64))) : Ty).size m (.slice (some ⟨vb, voff, none⟩) m capy) G := reads_at (by rw [hGl]; rfl) fun _ => ⟨vb, voff, rfl, hvs⟩
      obtain ⟨nc, w1, hr, hnc', hheap, hio⟩ := run_append_new (P := Tryz.prog) w (ty := 150) underS hi0 hz0 (sz := ((.st (.pair (.int .i64) (.int .i64))) : Ty).size) (by rw [hz1]; rfl) rfl rfl hFr (by rw [hFl]; rfl) hGr (by rw [hGl]; rfl) (by omega) (by rw [hz2]; exact hbig)
      refine (endGrow hm hnc (by omega) hbig hr).mono ?_
      rintro e w' ⟨rfl, rfl⟩
      refine ⟨_, rfl, hio, hlen, nc, hnc', .inr ⟨_, _, hheap, rfl, ?_, fun k x hk => ?_⟩⟩
      · simp only [Array.size_append, List.size_toArray, size_zeroCells, hFl, hGl]
        show nc * 2 ≤ i * 2 + m * 2 + (nc - (i + m)) * 2
        omega
      · rw [← Array.getElem?_toList]
        simp only [Array.toList_append]
        exact List.getElem?_append_left (List.getElem?_eq_some_iff.1 hk).1 ▸ hk
  · have hlt : i < n := by omega
    rcases hpl with h0 | ⟨b, off, cs, T, rfl, hh, hroom, hat⟩
    · omega
    have hvb : vb ≠ b := fun e => hne b off vb voff rfl rfl (by omega) e.symm
    have htl : (F.take (i * 2)).length = i * 2 := by rw [List.length_take, hFl]; omega
    have hdl : (F.drop (i * 2)).length = (n - i) * 2 := by rw [List.length_drop, hFl]; omega
    by_cases hg : n + m ≤ cap
    · refine (shift (capy := capy) hm hlt hg hbig hFl hF1 hGl hG1 hat hatv hh hhv hvb hroom).mono ?_
      rintro e w' ⟨rfl, rfl⟩
      obtain ⟨g1, g2, g3, g4⟩ := heap_setCells (F.drop (i * 2)) (off + (i + m) * 2) w.drew cs (show w.drew.heap[b]? = _ from hh)
      obtain ⟨k1, k2, k3, k4⟩ := heap_setCells G (off + i * 2) (w.drew.setCells b (off + (i + m) * 2) (F.drop (i * 2))) _ g1
      refine ⟨_, rfl, IO.trans (show IO w _ from g4) k4, hlen, cap, hg, .inl ⟨b, off, cs, _, T, rfl, hh, rfl, Nat.le_refl _, by omega, k2.trans g2, k1, by rw [wrAt_size, wrAt_size], fun k hk => (k3 k hk).trans (g3 k hk), fun k x hk => ?_⟩⟩
      rw [List.append_assoc, List.getElem?_append] at hk
      split at hk
      · rename_i h1
        rw [htl] at h1
        rw [wrAt_out _ _ _ _ (.inl (by omega)), wrAt_out _ _ _ _ (.inl (by omega))]
        rw [List.getElem?_take_of_lt h1] at hk
        exact hat k x hk
      · rename_i h1
        rw [htl] at h1 hk
        rw [List.getElem?_append] at hk
        split at hk
        · rename_i h2
          rw [show off + k = off + i * 2 + (k - i * 2) from by omega, wrAt_in _ _ _ _ h2 (by rw [wrAt_size]; rw [hGl] at h2; omega)]
          exact hk
        · rename_i h2
          rw [hGl] at h2 hk
          have hkl := (List.getElem?_eq_some_iff.1 hk).1
          rw [wrAt_out _ _ _ _ (.inr (by rw [hGl]; omega)), show off + k = off + (i + m) * 2 + (k - i * 2 - m * 2) from by omega, wrAt_in _ _ _ _ hkl (by rw [hdl] at hkl; omega)]
          exact hk
    · obtain ⟨N, ROW, hN, hRs, hRt, hcall⟩ := grow (capy := capy) hm hlt hnc (by omega) hbig hFl hF1 hGl hG1 hat hatv hh hhv
      refine hcall.mono ?_
      rintro e w' ⟨rfl, rfl⟩
      have hh1 : (w.alloc (.cells ROW 154)).drew.heap[w.heap.size]? = some (.cells ROW 154 (0, 0)) := heap_push_new (w := w) (w' := w.alloc (.cells ROW 154)) rfl
      have hho : ∀ k, k < w.heap.size → (w.alloc (.cells ROW 154)).drew.heap[k]? = w.heap[k]? := fun k hk => heap_push_old (w := w) (w' := w.alloc (.cells ROW 154)) rfl k hk
      obtain ⟨g1, g2, g3, g4⟩ := heap_setCells G (i * 2) (w.alloc (.cells ROW 154)).drew ROW hh1
      obtain ⟨k1, k2, k3, k4⟩ := heap_setCells (F.drop (i * 2)) ((i + m) * 2) ((w.alloc (.cells ROW 154)).drew.setCells w.heap.size (i * 2) G).drew _ g1
      refine ⟨_, rfl, IO.trans (show IO w (w.alloc (.cells ROW 154)).drew from ⟨rfl, rfl, rfl⟩) (IO.trans g4 k4), hlen, N, hN, .inr ⟨wrAt (wrAt ROW (i * 2) G) ((i + m) * 2) (F.drop (i * 2)), 154, ?_, rfl, ?_, fun k x hk => ?_⟩⟩
      · have hsz : (((w.alloc (.cells ROW 154)).drew.setCells w.heap.size (i * 2) G).drew.setCells w.heap.size ((i + m) * 2) (F.drop (i * 2))).heap.size = w.heap.size + 1 := by
          rw [k2]
          show ((w.alloc (.cells ROW 154)).drew.setCells w.heap.size (i * 2) G).heap.size = _
          rw [g2]
          show (w.heap.push (.cells ROW 154 (0, 0))).size = _
          rw [Array.size_push]
        apply Array.ext_getElem?
        intro k
        rw [Array.getElem?_push]
        split
        · rename_i e
          rw [e]
          exact k1
        · rename_i e
          rw [k3 k e]
          show ((w.alloc (.cells ROW 154)).drew.setCells w.heap.size (i * 2) G).heap[k]? = _
          rw [g3 k e]
          rcases Nat.lt_or_ge k w.heap.size with hk | hk
          · exact hho k hk
          · have hs1 : (w.alloc (.cells ROW 154)).drew.heap.size = w.heap.size + 1 := by
              show (w.heap.push (.cells ROW 154 (0, 0))).size = _
              rw [Array.size_push]
            rw [Array.getElem?_eq_none hk, Array.getElem?_eq_none (by rw [hs1]; omega)]
      · rw [wrAt_size, wrAt_size, hRs]
        exact Nat.le_refl _
      · rw [List.append_assoc, List.getElem?_append] at hk
        split at hk
        · rename_i h1
          rw [htl] at h1
          rw [wrAt_out _ _ _ _ (.inl (by omega)), wrAt_out _ _ _ _ (.inl (by omega)), hRt k h1]
          rw [List.getElem?_take_of_lt h1] at hk
          exact hk
        · rename_i h1
          rw [htl] at h1 hk
          rw [List.getElem?_append] at hk
          split at hk
          · rename_i h2
            rw [wrAt_out _ _ _ _ (.inl (by rw [hGl] at h2; omega)), show k = i * 2 + (k - i * 2) from by omega, wrAt_in _ _ _ _ h2 (by rw [hGl] at h2; omega)]
            exact hk
          · rename_i h2
            rw [hGl] at h2 hk
            have hkl := (List.getElem?_eq_some_iff.1 hk).1
            have hk2 : k = (i + m) * 2 + (k - i * 2 - m * 2) := by omega
            rw [hk2, wrAt_in _ _ _ _ hkl (by rw [wrAt_size, hRs]; rw [hdl] at hkl; omega)]
            exact hk

end Go.Proofs.LxLst.I186

/-
  slices.Delete at a slice type, walked.
-/
namespace Go.Proofs.LxLst.D96
open Go Go.Eng Go.RowKit Go.Lib

theorem underS : Tryz.prog.underlying 150 = some (.slice 154) := by kernel_rfl
theorem infoE : (Tryz.prog.info? 154).map (fun i => (i.zero, i.size, i.bytes)) = some (some (.agg #[.int .i64 0, .int .i64 0]), 2, 16) := by kernel_rfl
theorem mixed' : Tryz.prog.follows .mixedOrders = true := by kernel_rfl

set_option maxHeartbeats 4000000 in
set_option maxRecDepth 1000000 in
theorem ok : LstOK Tryz.prog 96 (.del 2) := by
  intro w n ad cap F i j hrow hn hij hj
  obtain ⟨hnc, hFl, hF1, hpl⟩ := hrow
  rcases hpl with h0 | ⟨b, off, cs, T, rfl, hh, hroom, hat⟩
  · omega
  have mixed := mixed'
  have t62 := underS
  obtain ⟨i0, hi0, hz0, hz1, hz2⟩ := info_parts infoE
  by_cases heq : i = j
  · subst heq
    have h0 : Calls Tryz.prog 96 #[.slice (some ⟨b, off, none⟩) n cap, .int .i64 i, .int .i64 i] w fun e w' => e = .returned (.slice (some ⟨b, off, none⟩) n cap) ∧ w' = w := by
      clear hat hroom hh hF1 hFl
      go_enter Tryz.func96, Tryz.ntmps96
      go_wp2
      all_goals (go_ret; exact ⟨rfl, rfl⟩)
    refine h0.mono ?_
    rintro e w' ⟨rfl, rfl⟩
    refine ⟨_, rfl, IO.refl _, ?_, cap, by omega, .inl ⟨b, off, cs, cs, T, rfl, hh, by rw [Nat.sub_self, Nat.sub_zero], Nat.le_refl _, by omega, rfl, hh, rfl, fun _ _ => rfl, fun k x hk => ?_⟩⟩
    · simp only [List.length_append, List.length_take, List.length_drop]; omega
    · rw [List.take_append_drop] at hk; exact hat k x hk
  · have hlt : i < j := by omega
    obtain ⟨news, hnews⟩ : ∃ news, news = F.drop (j * 2) := ⟨_, rfl⟩
    have hlen : news.length = (n - j) * 2 := by rw [hnews, List.length_drop, hFl]; omega
    obtain ⟨A, hA, hsrc⟩ : ∃ A : Addr, (if cap = j then some (⟨b, off, none⟩ : Addr) else some ⟨b, off + j * 2, none⟩) = some A ∧ Hid (∀ t u, news[t]? = some u → w.drew.cell? (A.add t) = some u) := by
      by_cases h : cap = j
      · refine ⟨⟨b, off, none⟩, by simp [h], fun t u hu => ?_⟩
        have h0 : news.length = 0 := by rw [hlen]; omega
        rw [List.length_eq_zero_iff.1 h0] at hu
        simp at hu
      · refine ⟨⟨b, off + j * 2, none⟩, by simp [h], fun t u hu => ?_⟩
        rw [hnews, List.getElem?_drop] at hu
        rw [Addr.add_lit]
        show w.cell? _ = some u
        rw [cell?_cells hh, Nat.add_assoc]
        exact hat _ _ hu
    have s1 : Hid (news.length = (n - j) * 2) := hlen
    have s2 : Hid (∀ u ∈ news, u.oneCell' = true) := fun u hu => hF1 u (by rw [hnews] at hu; exact List.mem_of_mem_drop hu)
    have s3 : Hid (∀ t, t < news.length → (w.drew.cell? ⟨b, off + i * 2 + t, none⟩).isSome = true ∧ w.drew.frozen? ⟨b, off + i * 2 + t, none⟩ = false) := by
      intro t ht
      rw [hlen] at ht
      exact ⟨cell_isSome (w := w.drew) hh (by omega), frozen_no (w := w.drew) hh⟩
    obtain ⟨W1, hW1⟩ : ∃ W1, W1 = w.drew.setCells b (off + i * 2) news := ⟨_, rfl⟩
    obtain ⟨g1, g2, g3, g4⟩ := heap_setCells news (off + i * 2) w.drew cs (show w.drew.heap[b]? = _ from hh)
    rw [← hW1] at g1 g2 g3 g4
    have hcl : ∀ ty, (Builtin.clear_ #[150] ty #[.slice (some ⟨b, off + (i + (n - j)) * 2, none⟩) (n - (i + (n - j))) (cap - (i + (n - j)))]).run Tryz.prog W1 = .ok (.tuple #[]) (W1.setCells b (off + (i + (n - j)) * 2) (Builtin.zeroCells (.agg #[.int .i64 0, .int .i64 0] : Value).cells (n - (i + (n - j)))).toList) :=
      fun ty => run_clear_row W1 _ _ ty _ t62 Tryz.zeroValue154 g1 (by
        rw [wrAt_size]
        show _ + _ * 2 ≤ _
        omega) (by intro v hv; simp [Value.cells] at hv; rcases hv with rfl | rfl <;> rfl)
    have hW : Hid (W1 = w.drew.setCells b (off + i * 2) news) := hW1
    obtain ⟨W2, hW2⟩ : ∃ W2, W2 = W1.setCells b (off + (i + (n - j)) * 2) (Builtin.zeroCells (.agg #[.int .i64 0, .int .i64 0] : Value).cells (n - (i + (n - j)))).toList := ⟨_, rfl⟩
    obtain ⟨k1, k2, k3, k4⟩ := heap_setCells (Builtin.zeroCells (.agg #[.int .i64 0, .int .i64 0] : Value).cells (n - (i + (n - j)))).toList (off + (i + (n - j)) * 2) W1 _ g1
    rw [← hW2] at hcl k1 k2 k3 k4
    have key : Calls Tryz.prog 96 #[.slice (some ⟨b, off, none⟩) n cap, .int .i64 i, .int .i64 j] w fun e w' => e = .returned (.slice (some ⟨b, off, none⟩) (i + (n - j)) cap) ∧ w' = W2 := by
      have hic : i ≤ cap := by omega
      have hjc : j ≤ cap := by omega
      clear hW1 hW2 hnews hlen hat hroom hh g1 g2 g3 g4 k1 k2 k3 k4 hF1 hFl
      go_enter Tryz.func96, Tryz.ntmps96
      go_wp2_with fail
      go_region_law_o (refine step_append_room rfl (.tmp 22) (.tmp 25) 150 rfl 154 i0 2 t62 hi0 hz1 b off i cap (by simp [Act.eval, Act.put]) A (n - j) (cap - j) news (by simp [Act.eval, Act.put]) s1.out hsrc.out s2.out (by omega) s3.out ?_; rw [← hW.out])
      go_wp2
      go_ret
      exact ⟨rfl, rfl⟩
    refine key.mono ?_
    rintro e w' ⟨rfl, rfl⟩
    refine ⟨_, rfl, IO.trans (show IO w W1 from g4) k4, ?_, cap, by omega, .inl ⟨b, off, cs, _, T, rfl, hh, by rw [show n - (j - i) = i + (n - j) by omega], Nat.le_refl _, by omega, k2.trans g2, k1, by rw [wrAt_size, wrAt_size], fun k hk => (k3 k hk).trans (g3 k hk), fun k x hk => ?_⟩⟩
    · simp only [List.length_append, List.length_take, List.length_drop]; omega
    · have hkl := (List.getElem?_eq_some_iff.1 hk).1
      rw [List.length_append, List.length_take, List.length_drop] at hkl
      rw [wrAt_out _ _ _ _ (.inl (by omega))]
      rw [List.getElem?_append] at hk
      split at hk
      · rename_i h1
        rw [List.length_take] at h1
        rw [wrAt_out _ _ _ _ (.inl (by omega))]
        rw [List.getElem?_take] at hk
        split at hk
        · exact hat k x hk
        · cases hk
      · rename_i h1
        rw [List.length_take] at h1
        rw [List.length_take] at hk
        have hmin : min (i * 2) F.length = i * 2 := by rw [hFl]; omega
        rw [hmin] at hk h1
        rw [show off + k = off + i * 2 + (k - i * 2) from by omega, wrAt_in _ _ _ _ (by rw [hlen]; omega) (by omega), hnews]
        exact hk

end Go.Proofs.LxLst.D96

/-
  errors.As, at an error of the program's, or one with a place: whether there is a place, and the variable that is set then.
-/
namespace Go.Proofs.LxLst.A82
open Go Go.RowKit Go.Lib Go.Proofs Go.Extern.Stop Go.Stop Go.Extern Go.Extern.Rtype
/-- a call of a function without a body -/
theorem ext_run {P : Program} {f : FuncId} {fn : Func} {row : Array Value → Sem Value} (hf : P.funcs[f]? = some fn) (hname : (fn.name == "runtime.NumGoroutine") = false) (hb : fn.body.isNone = true) (hn : Extern.findNext fn = none) (he : Extern.find fn = some row)
    {args : Array Value} {v : Value} {w w' : World} (h : (row args).run P w = .ok v w') : (callFunc f args).run P w = .ok (.value v) w' := by
  rw [run_callFunc_extern hf hname hb hn he]
  simp [h, Result.andThen]

abbrev hdl (t : Nat) : Value := .pointer (some ⟨22, t, none⟩)
theorem handleR (t : TypeId) (w : World) : (handle t).run Tryz.prog w = .ok (hdl t) w := by kernel_rfl
theorem kindP (w : World) : (kind 172).run Tryz.prog w = .ok 22 w := by kernel_rfl
theorem kindA (w : World) : (kind 143).run Tryz.prog w = .ok 22 w := by kernel_rfl
theorem elemP (w : World) : (elem? 172).run Tryz.prog w = .ok (some 143) w := by kernel_rfl
theorem partsP (a : Addr) (w : World) : (ReflectliteValue.parts (.agg #[hdl 172, .pointer (some a), .int .u64 150])).run Tryz.prog w = .ok (some (172, a, 150)) w := by kernel_rfl
theorem partsA (a : Addr) (w : World) : (ReflectliteValue.parts (.agg #[hdl 143, .pointer (some a), .int .u64 150])).run Tryz.prog w = .ok (some (143, a, 150)) w := by kernel_rfl
theorem partsD (a : Addr) (w : World) : (ReflectliteValue.parts (.agg #[hdl 143, .pointer (some a), .int .u64 406])).run Tryz.prog w = .ok (some (143, a, 406)) w := by kernel_rfl
theorem loadP {w : World} {t : TypeId} {e : TypeId} (ht : Tryz.prog.underlying t = some (.pointer e)) {a : Addr} {v : Value} (h : w.cell? a = some v) : (loadVar t a).run Tryz.prog w = .ok v w := by
  simp [loadVar, isAgg, underlying, ht, h, Result.andThen]
theorem uP : Tryz.prog.underlying 172 = some (.pointer 143) := by kernel_rfl
theorem uA : Tryz.prog.underlying 143 = some (.pointer 145) := by kernel_rfl

theorem valueOf {t : TypeId} (hk : ∀ w, (kind t).run Tryz.prog w = .ok 22 w) (a : Option Addr) (w : World) : (ReflectliteValue.unpack (.iface t (.pointer a))).run Tryz.prog w = .ok (.agg #[hdl t, .pointer (some ⟨w.heap.size, 0, none⟩), .int .u64 150]) (w.alloc (.cells #[.pointer a] t)) := by
  simp [ReflectliteValue.unpack, ReflectliteValue.mk, newVar, newRow, handleR, hk, Result.andThen, Value.cells, ReflectliteValue.flagIndir]
theorem cValueOf {t : TypeId} (hk : ∀ w, (kind t).run Tryz.prog w = .ok 22 w) (a : Option Addr) (w : World) : (callFunc 138 #[.iface t (.pointer a)]).run Tryz.prog w = .ok (.value (.agg #[hdl t, .pointer (some ⟨w.heap.size, 0, none⟩), .int .u64 150])) (w.alloc (.cells #[.pointer a] t)) :=
  ext_run (fn := Tryz.f138) (row := fun args => ReflectliteValue.unpack (args.getD 0 (.tuple #[]))) (by kernel_rfl) (by kernel_rfl) (by kernel_rfl) (by kernel_rfl) (by kernel_rfl) (valueOf hk a w)
theorem cType (a : Addr) (w : World) : (callFunc 139 #[.agg #[hdl 172, .pointer (some a), .int .u64 150]]).run Tryz.prog w = .ok (.value (.iface 270 (.agg #[hdl 172]))) w :=
  ext_run (fn := Tryz.f139) (row := ReflectliteValue.methodAny (ReflectliteValue.valueError "reflectlite.Value.Type" 0) fun t _ _ _ => ReflectliteType.toType t) (by kernel_rfl) (by kernel_rfl) (by kernel_rfl) (by kernel_rfl) (by kernel_rfl) (by kernel_rfl)
theorem rlm (z : Sem Value) (f : TypeId → Addr → Nat → Nat → Sem Value) (v : Value) :
    ReflectliteValue.method z f #[v] = (do match ← ReflectliteValue.parts v with | none => z | some (t, a, fl) => f t a fl (fl % 32)) := rfl
theorem cIsNil {a p : Addr} {w : World} (h : w.cell? a = some (.pointer (some p))) : (callFunc 140 #[.agg #[hdl 172, .pointer (some a), .int .u64 150]]).run Tryz.prog w = .ok (.value (.bool false)) w := by
  refine ext_run (fn := Tryz.f140) (row := ReflectliteValue.method (ReflectliteValue.valueError "reflectlite.Value.IsNil" 0) ReflectliteValue.isNil) (by kernel_rfl) (by kernel_rfl) (by kernel_rfl) (by kernel_rfl) (by kernel_rfl) ?_
  rw [rlm]
  simp only [Sem.run_bind, partsP, Result.andThen]
  simp [ReflectliteValue.isNil, loadP uP h, Result.andThen]
theorem cElem {a p : Addr} {w : World} (h : w.cell? a = some (.pointer (some p))) : (callFunc 174 #[.agg #[hdl 172, .pointer (some a), .int .u64 150]]).run Tryz.prog w = .ok (.value (.agg #[hdl 143, .pointer (some p), .int .u64 406])) w := by
  refine ext_run (fn := Tryz.f174) (row := ReflectliteValue.method (ReflectliteValue.valueError "reflectlite.Value.Elem" 0) ReflectliteValue.elem) (by kernel_rfl) (by kernel_rfl) (by kernel_rfl) (by kernel_rfl) (by kernel_rfl) ?_
  rw [rlm]
  simp only [Sem.run_bind, partsP, Result.andThen]
  simp [ReflectliteValue.elem, loadP uP h, elemP, ReflectliteValue.mk, handleR, kindA, ReflectliteValue.flagIndir, ReflectliteValue.flagAddr, Result.andThen]
theorem rls (v x : Value) : ReflectliteValue.set #[v, x] = (do
    let (some (dst, a, fl), some (src, b, _)) := (← ReflectliteValue.parts v, ← ReflectliteValue.parts x)
      | unsupported (.noEntry "extern/(internal/reflectlite.Value).Set.zeroValue")
    if fl / ReflectliteValue.flagAddr % 2 == 0 then unsupported (.noEntry "extern/(internal/reflectlite.Value).Set.unaddressable")
    let val ← loadVar src b
    if ← directlyAssignable dst src then storeVar dst a val
    else if ← implements dst src then
      if (← kind src) == 20 then
        match val with
        | .nilIface => unsupported (.noEntry "extern/reflectlite: a nil value of one interface type handed on as a value of another")
        | _ => storeVar dst a val
      else storeVar dst a (.iface src val)
    else panicString ("reflectlite.Set: value of type " ++ (← spelt src) ++ " is not assignable to type " ++ (← spelt dst))
    pure (.tuple #[])) := rfl
theorem dAss (w : World) : (directlyAssignable 143 143).run Tryz.prog w = .ok true w := by kernel_rfl
theorem sz143 (w : World) : (sizeOf 143).run Tryz.prog w = .ok 1 w := by kernel_rfl
theorem cSet {a b p : Addr} {w : World} {y : Value} {Tb : TypeId} (h : w.cell? b = some (.pointer (some p))) (ha : w.heap[a.block]? = some (.cells #[y] Tb (0, 0))) (h0 : a.off = 0) (hs : a.spot = none) :
    (callFunc 175 #[.agg #[hdl 143, .pointer (some a), .int .u64 406], .agg #[hdl 143, .pointer (some b), .int .u64 150]]).run Tryz.prog w = .ok (.value (.tuple #[])) (w.setCell a (.pointer (some p))) := by
  refine ext_run (fn := Tryz.f175) (row := ReflectliteValue.set) (by kernel_rfl) (by kernel_rfl) (by kernel_rfl) (by kernel_rfl) (by kernel_rfl) ?_
  rw [rls]
  simp only [Sem.run_bind, partsD, partsA, Result.andThen]
  obtain ⟨ab, ao, sp⟩ := a
  simp only at h0 hs ha
  subst h0 hs
  have hc : w.cell? ⟨ab, 0, none⟩ = some y := by simp [World.cell?, ha]
  have hf : w.frozen? ⟨ab, 0, none⟩ = false := by simp [World.frozen?, ha]
  have hst : (storeCells ⟨ab, 0, none⟩ [.pointer (some p)]).run Tryz.prog w = .ok () (w.setCell ⟨ab, 0, none⟩ (.pointer (some p))) := by
    simp only [storeCells, Sem.run_bind]
    have : (⟨ab, 0, none⟩ : Addr).add 0 = ⟨ab, 0, none⟩ := rfl
    rw [this, run_store _ _ _ _ _ rfl, hc, hf]
    simp [Result.andThen]
  simp [ReflectliteValue.flagAddr, loadP uA h, dAss, storeVar, Value.cells, sz143, hst, Result.andThen]
theorem cTypeOf {t : TypeId} (v : Value) (w : World) (h : (Extern.ReflectliteType.typeOf #[.iface t v]).run Tryz.prog w = .ok (.iface 270 (.agg #[hdl t])) w) : (callFunc 173 #[.iface t v]).run Tryz.prog w = .ok (.value (.iface 270 (.agg #[hdl t]))) w :=
  ext_run (fn := Tryz.f173) (row := Extern.ReflectliteType.typeOf) (by kernel_rfl) (by kernel_rfl) (by kernel_rfl) (by kernel_rfl) (by kernel_rfl) h
theorem cAssign (t : TypeId) (r : Bool) (w : World) (h : (Extern.ReflectliteType.relation "AssignableTo" Extern.ReflectliteType.assignableTo #[.agg #[hdl t], .iface 270 (.agg #[hdl 143])]).run Tryz.prog w = .ok (.bool r) w) :
    (callFunc 314 #[.agg #[hdl t], .iface 270 (.agg #[hdl 143])]).run Tryz.prog w = .ok (.value (.bool r)) w :=
  ext_run (fn := Tryz.f314) (row := Extern.ReflectliteType.relation "AssignableTo" Extern.ReflectliteType.assignableTo) (by kernel_rfl) (by kernel_rfl) (by kernel_rfl) (by kernel_rfl) (by kernel_rfl) h
theorem cImpl (w : World) : (callFunc 317 #[.agg #[hdl 143], .iface 270 (.agg #[hdl 50])]).run Tryz.prog w = .ok (.value (.bool true)) w :=
  ext_run (fn := Tryz.f317) (row := Extern.ReflectliteType.relation "Implements" Extern.ReflectliteType.implements_) (by kernel_rfl) (by kernel_rfl) (by kernel_rfl) (by kernel_rfl) (by kernel_rfl) (by kernel_rfl)
theorem cKind (t : TypeId) (w : World) (h : (Extern.ReflectliteType.abiMethod (fun t => do pure (.int .u8 (← kind t))) #[hdl t]).run Tryz.prog w = .ok (.int .u8 22) w) : (callFunc 303 #[hdl t]).run Tryz.prog w = .ok (.value (.int .u8 22)) w :=
  ext_run (fn := Tryz.f303) (row := Extern.ReflectliteType.abiMethod fun t => do pure (.int .u8 (← kind t))) (by kernel_rfl) (by kernel_rfl) (by kernel_rfl) (by kernel_rfl) (by kernel_rfl) h
theorem cElemT (w : World) : (callFunc 316 #[.agg #[hdl 172]]).run Tryz.prog w = .ok (.value (.iface 270 (.agg #[hdl 143]))) w :=
  ext_run (fn := Tryz.f316) (row := Extern.ReflectliteType.method Extern.ReflectliteType.elem) (by kernel_rfl) (by kernel_rfl) (by kernel_rfl) (by kernel_rfl) (by kernel_rfl) (by kernel_rfl)
theorem noAs (v : Value) (xT : TypeId) (w : World) : (Instr.typeAssert (.iface 385 v) xT 275 true).run Tryz.prog w = .ok (.tuple #[.nilIface, .bool false]) w := run_typeAssert_lacksB Tryz.underlying275 (by kernel_rfl) (by kernel_rfl) v xT w
theorem noUnwrap (v : Value) (xT : TypeId) (w : World) : (Instr.typeAssert (.iface 385 v) xT 278 true).run Tryz.prog w = .ok (.tuple #[.nilIface, .bool false]) w := run_typeAssert_lacksB Tryz.underlying278 (by kernel_rfl) (by kernel_rfl) v xT w
theorem noUnwraps (v : Value) (xT : TypeId) (w : World) : (Instr.typeAssert (.iface 385 v) xT 279 true).run Tryz.prog w = .ok (.tuple #[.nilIface, .bool false]) w := run_typeAssert_lacksB Tryz.underlying279 (by kernel_rfl) (by kernel_rfl) v xT w


open Go.Eng

set_option maxRecDepth 1000000 in
theorem As_s {W : World} (x : Addr) (bb : Nat) (Tg : TypeId) (fz : Nat × Nat) (hg : W.heap[11]? = some (.cells #[.iface 270 (.agg #[hdl 50])] Tg fz)) :
    Calls Tryz.prog 82 #[.iface 385 (.pointer (some x)), .iface 172 (.pointer (some ⟨bb, 0, none⟩))] W fun e w' => e = .returned (.bool false) ∧ Below W.heap.size W w' := by
  have hgc : W.cell? ⟨11, 0, none⟩ = some (.iface 270 (.agg #[hdl 50])) := by rw [Eng.cell?_cells hg]; rfl
  have h11 : 11 < W.heap.size := (Array.getElem?_eq_some_iff.1 hg).1
  clear hg
  have h1 : ∀ w, (callFunc 138 #[.iface 172 (.pointer (some ⟨bb, 0, none⟩))]).run Tryz.prog w = .ok (.value (.agg #[hdl 172, .pointer (some ⟨w.heap.size, 0, none⟩), .int .u64 150])) (w.alloc (.cells #[.pointer (some ⟨bb, 0, none⟩)] 172)) := fun w => cValueOf kindP _ w
  have h2 : ∀ w, (callFunc 139 #[.agg #[hdl 172, .pointer (some ⟨W.heap.size, 0, none⟩), .int .u64 150]]).run Tryz.prog w = .ok (.value (.iface 270 (.agg #[hdl 172]))) w := fun w => cType _ w
  have h3 : ∀ w, (callFunc 303 #[hdl 172]).run Tryz.prog w = .ok (.value (.int .u8 22)) w := fun w => cKind 172 w (by kernel_rfl)
  have h4 : ∀ w, (callFunc 303 #[hdl 143]).run Tryz.prog w = .ok (.value (.int .u8 22)) w := fun w => cKind 143 w (by kernel_rfl)
  have h5 : ∀ w : World, w.cell? ⟨W.heap.size, 0, none⟩ = some (.pointer (some ⟨bb, 0, none⟩)) → (callFunc 140 #[.agg #[hdl 172, .pointer (some ⟨W.heap.size, 0, none⟩), .int .u64 150]]).run Tryz.prog w = .ok (.value (.bool false)) w := fun w h => cIsNil h
  have h6 := cElemT
  have h7 := cImpl
  have k1 : ∀ (v : Value) (w : World), (callFunc 173 #[.iface 385 v]).run Tryz.prog w = .ok (.value (.iface 270 (.agg #[hdl 385]))) w := fun v w => cTypeOf v w (by kernel_rfl)
  have k2 : ∀ (w : World), (callFunc 314 #[.agg #[hdl 385], .iface 270 (.agg #[hdl 143])]).run Tryz.prog w = .ok (.value (.bool false)) w := fun w => cAssign 385 false w (by kernel_rfl)
  have k3 := noAs
  have k4 := noUnwrap
  have k5 := noUnwraps
  go_enter Tryz.func82, Tryz.ntmps82
  go_wp2
  go_rounds 1
  go_ret
  exact ⟨rfl, by go_grown⟩

set_option maxRecDepth 1000000 in
theorem As_n {W : World} (t : Value) : Calls Tryz.prog 82 #[.nilIface, t] W fun e w' => e = .returned (.bool false) ∧ Below W.heap.size W w' := by
  go_enter Tryz.func82, Tryz.ntmps82
  go_wp2
  go_ret
  exact ⟨rfl, by go_grown⟩

set_option maxRecDepth 1000000 in
set_option maxHeartbeats 4000000 in
theorem As_at {W : World} (x : Addr) (bb : Nat) (y : Value) (Tb : TypeId) (hbb : W.heap[bb]? = some (.cells #[y] Tb (0, 0))) (hne : bb ≠ 11) (Tg : TypeId) (fz : Nat × Nat) (hg : W.heap[11]? = some (.cells #[.iface 270 (.agg #[hdl 50])] Tg fz)) :
    Calls Tryz.prog 82 #[.iface 143 (.pointer (some x)), .iface 172 (.pointer (some ⟨bb, 0, none⟩))] W fun e w' => e = .returned (.bool true) ∧ ∃ V, Below W.heap.size W V ∧ w' = V.setCell ⟨bb, 0, none⟩ (.pointer (some x)) := by
  have hgc : W.cell? ⟨11, 0, none⟩ = some (.iface 270 (.agg #[hdl 50])) := by rw [Eng.cell?_cells hg]; rfl
  have h11 : 11 < W.heap.size := (Array.getElem?_eq_some_iff.1 hg).1
  have hlb : bb < W.heap.size := (Array.getElem?_eq_some_iff.1 hbb).1
  have hbc : W.cell? ⟨bb, 0, none⟩ = some y := by rw [Eng.cell?_cells hbb]; rfl
  clear hg
  have h1 : ∀ w, (callFunc 138 #[.iface 172 (.pointer (some ⟨bb, 0, none⟩))]).run Tryz.prog w = .ok (.value (.agg #[hdl 172, .pointer (some ⟨w.heap.size, 0, none⟩), .int .u64 150])) (w.alloc (.cells #[.pointer (some ⟨bb, 0, none⟩)] 172)) := fun w => cValueOf kindP _ w
  have h1' : ∀ w, (callFunc 138 #[.iface 143 (.pointer (some x))]).run Tryz.prog w = .ok (.value (.agg #[hdl 143, .pointer (some ⟨w.heap.size, 0, none⟩), .int .u64 150])) (w.alloc (.cells #[.pointer (some x)] 143)) := fun w => cValueOf kindA _ w
  have h2 : ∀ w, (callFunc 139 #[.agg #[hdl 172, .pointer (some ⟨W.heap.size, 0, none⟩), .int .u64 150]]).run Tryz.prog w = .ok (.value (.iface 270 (.agg #[hdl 172]))) w := fun w => cType _ w
  have h3 : ∀ w, (callFunc 303 #[hdl 172]).run Tryz.prog w = .ok (.value (.int .u8 22)) w := fun w => cKind 172 w (by kernel_rfl)
  have h4 : ∀ w, (callFunc 303 #[hdl 143]).run Tryz.prog w = .ok (.value (.int .u8 22)) w := fun w => cKind 143 w (by kernel_rfl)
  have h5 : ∀ w : World, w.cell? ⟨W.heap.size, 0, none⟩ = some (.pointer (some ⟨bb, 0, none⟩)) → (callFunc 140 #[.agg #[hdl 172, .pointer (some ⟨W.heap.size, 0, none⟩), .int .u64 150]]).run Tryz.prog w = .ok (.value (.bool false)) w := fun w h => cIsNil h
  have h6 := cElemT
  have h7 := cImpl
  have k1 : ∀ (v : Value) (w : World), (callFunc 173 #[.iface 143 v]).run Tryz.prog w = .ok (.value (.iface 270 (.agg #[hdl 143]))) w := fun v w => cTypeOf v w (by kernel_rfl)
  have k2 : ∀ (w : World), (callFunc 314 #[.agg #[hdl 143], .iface 270 (.agg #[hdl 143])]).run Tryz.prog w = .ok (.value (.bool true)) w := fun w => cAssign 143 true w (by kernel_rfl)
  obtain ⟨A, hA⟩ : ∃ A : Obj, A = .cells #[.pointer (some ⟨bb, 0, none⟩)] 172 := ⟨_, rfl⟩
  have sz : ∀ (V : World) (o : Obj), (V.alloc o).heap.size = V.heap.size + 1 := fun V o => World.size_alloc V o
  have old : ∀ (V : World) (o : Obj) (b : Nat), b < V.heap.size → (V.alloc o).heap[b]? = V.heap[b]? := fun V o b hb => Eng.heap_push_old (w' := V.alloc o) (o := o) rfl b hb
  have k3 : ∀ (B C : Obj), (callFunc 174 #[.agg #[hdl 172, .pointer (some ⟨W.heap.size, 0, none⟩), .int .u64 150]]).run Tryz.prog (((W.alloc A).alloc B).alloc C) = .ok (.value (.agg #[hdl 143, .pointer (some ⟨bb, 0, none⟩), .int .u64 406])) (((W.alloc A).alloc B).alloc C) := fun B C => by
    refine cElem ?_
    have e : ((((W.alloc A).alloc B).alloc C)).heap[W.heap.size]? = some A := by
      rw [old ((W.alloc A).alloc B) C W.heap.size (by rw [sz, sz]; omega), old (W.alloc A) B W.heap.size (by rw [sz]; omega)]
      exact Eng.heap_push_new (w' := W.alloc A) rfl
    rw [Eng.cell?_cells (e.trans (congrArg some hA))]
    rfl
  have k4 : ∀ (B C : Obj), (callFunc 175 #[.agg #[hdl 143, .pointer (some ⟨bb, 0, none⟩), .int .u64 406], .agg #[hdl 143, .pointer (some ⟨W.heap.size + 1 + 1 + 1, 0, none⟩), .int .u64 150]]).run Tryz.prog ((((W.alloc A).alloc B).alloc C).alloc (.cells #[.pointer (some x)] 143)) =
      .ok (.value (.tuple #[])) (((((W.alloc A).alloc B).alloc C).alloc (.cells #[.pointer (some x)] 143)).setCell ⟨bb, 0, none⟩ (.pointer (some x))) := fun B C => by
    refine cSet (y := y) (Tb := Tb) ?_ ?_ rfl rfl
    · have hn := Eng.heap_push_new (w := ((W.alloc A).alloc B).alloc C) (w' := (((W.alloc A).alloc B).alloc C).alloc (.cells #[.pointer (some x)] 143)) (o := .cells #[.pointer (some x)] 143) rfl
      rw [sz, sz, sz] at hn
      rw [Eng.cell?_cells hn]
      rfl
    · rw [old (((W.alloc A).alloc B).alloc C) _ bb (by rw [sz, sz, sz]; omega), old ((W.alloc A).alloc B) C bb (by rw [sz, sz]; omega), old (W.alloc A) B bb (by rw [sz]; omega), old W A bb hlb]
      exact hbb
  rw [hA] at k3 k4
  clear old sz hA A
  go_enter Tryz.func82, Tryz.ntmps82
  go_wp2
  go_rounds 1
  go_ret
  refine ⟨rfl, _, ?_, rfl⟩
  go_grown

theorem ok : LstOK Tryz.prog 82 (.asE 172 385 143 11 270 22 50) := by
  intro w bb y Tb ev hg hbb hne
  obtain ⟨Tg, fz, hg⟩ := hg
  have post0 : ∀ {w' : World}, Below w.heap.size w w' → AsPost w w' bb y Tb := fun {w'} h =>
    ⟨⟨h.os, h.tape, h.output⟩, h.size, fun b hb _ => h.block b hb, (h.block bb (Array.getElem?_eq_some_iff.1 hbb).1).trans hbb⟩
  refine ⟨fun he => ?_, fun x he => ?_⟩
  · rcases he with rfl | ⟨x, rfl⟩
    · exact (As_n _).mono fun e w' h => ⟨h.1, post0 h.2⟩
    · exact (As_s x bb Tg fz hg).mono fun e w' h => ⟨h.1, post0 h.2⟩
  · subst he
    refine (As_at x bb y Tb hbb hne Tg fz hg).mono fun e w' h => ⟨h.1, ?_⟩
    obtain ⟨_, V, h, rfl⟩ := h
    have hlb : bb < w.heap.size := (Array.getElem?_eq_some_iff.1 hbb).1
    have hsz : (V.setCell ⟨bb, 0, none⟩ (.pointer (some x))).heap.size = V.heap.size := by simp [World.setCell]
    refine ⟨⟨h.os, h.tape, h.output⟩, by rw [hsz]; exact h.size, fun b hb hn => ?_, ?_⟩
    · rw [heap_setCell_other V _ b _ hn]
      exact h.block b hb
    · simp only [World.setCell, Array.getElem?_modify, if_true, h.block bb hlb, hbb]
      rfl

end Go.Proofs.LxLst.A82

/-
  The tables of the seat's program.
-/
namespace Go.Proofs.YtpekhdbkekiblaaGreatDoor.Lx
open Go Go.Eng Go.Proofs

def nms : Names := ⟨385, 143⟩

def tys : List (TypeId × TyI) := [
  (3, ⟨.int .i64, 1, 8, [.v (.int .i64 0)], some (.int .i64), none⟩),
  (4, ⟨.bool, 1, 1, [.v (.bool false)], some .bool, none⟩),
  (5, ⟨.int .u8, 1, 1, [.v (.int .u8 0)], some (.int .u8), none⟩),
  (9, ⟨.str, 1, 16, [.v (.string .empty)], some .str, none⟩),
  (20, ⟨.iface, 1, 16, [.v (.nilIface)], some (.dy 3 (.int .i64) (.dy 22 (.int .u32) (.dy 23 (.sl (.int .u8)) (.dy 28 (.st (.pair (.st (.pair (.sl (.int .i64)) .bool)) (.sl (.int .i64)))) (.dy 9 .str (.dy 32 .flt .dn)))))), none⟩),
  (21, ⟨.int .i32, 1, 4, [.v (.int .i32 0)], some (.int .i32), none⟩),
  (22, ⟨.int .u32, 1, 4, [.v (.int .u32 0)], some (.int .u32), none⟩),
  (23, ⟨.slice 5, 1, 24, [.v (.slice none 0 0)], some (.sl (.int .u8)), none⟩),
  (24, ⟨.slice 3, 1, 24, [.v (.slice none 0 0)], some (.sl (.int .i64)), none⟩),
  (26, ⟨.struct [(24, 0, 1), (4, 1, 1)], 2, 32, [.v (.slice none 0 0), .v (.bool false)], some (.st (.pair (.sl (.int .i64)) .bool)), none⟩),
  (28, ⟨.struct [(26, 0, 2), (24, 2, 1)], 3, 56, [.v (.slice none 0 0), .v (.bool false), .v (.slice none 0 0)], some (.st (.pair (.st (.pair (.sl (.int .i64)) .bool)) (.sl (.int .i64)))), none⟩),
  (32, ⟨.float .f64, 1, 8, [.v (.float .f64 0)], some .flt, none⟩),
  (33, ⟨.int .u64, 1, 8, [.v (.int .u64 0)], some (.int .u64), none⟩),
  (38, ⟨.ptr 126, 1, 8, [.v (.pointer none)], some (.hd 8), none⟩),
  (39, ⟨.ptr 106, 1, 8, [.v (.pointer none)], some (.hd 5), none⟩),
  (40, ⟨.ptr 120, 1, 8, [.v (.pointer none)], some (.hd 0), none⟩),
  (43, ⟨.int .u64, 1, 8, [.v (.int .u64 0)], some (.int .u64), none⟩),
  (45, ⟨.struct [(3, 0, 1), (43, 1, 1), (3, 2, 1), (23, 3, 1)], 4, 48, [.v (.int .i64 0), .v (.int .u64 0), .v (.int .i64 0), .v (.slice none 0 0)], some (.st (.pair (.int .i64) (.pair (.int .u64) (.pair (.int .i64) (.sl (.int .u8)))))), none⟩),
  (47, ⟨.struct [(43, 0, 1), (3, 1, 1), (3, 2, 1), (23, 3, 1), (3, 4, 1)], 5, 56, [.v (.int .u64 0), .v (.int .i64 0), .v (.int .i64 0), .v (.slice none 0 0), .v (.int .i64 0)], some (.st (.pair (.int .u64) (.pair (.int .i64) (.pair (.int .i64) (.pair (.sl (.int .u8)) (.int .i64)))))), none⟩),
  (50, ⟨.iface, 1, 16, [.v (.nilIface)], some .err, none⟩),
  (53, ⟨.other, 1, 8, [.v (.nilFunc)], none, none⟩),
  (59, ⟨.struct [(3, 0, 1), (24, 1, 1), (24, 2, 1), (28, 3, 3)], 6, 112, [.v (.int .i64 0), .v (.slice none 0 0), .v (.slice none 0 0), .v (.slice none 0 0), .v (.bool false), .v (.slice none 0 0)], some (.st (.pair (.int .i64) (.pair (.sl (.int .i64)) (.pair (.sl (.int .i64)) (.st (.pair (.st (.pair (.sl (.int .i64)) .bool)) (.sl (.int .i64)))))))), none⟩),
  (60, ⟨.slice 59, 1, 24, [.v (.slice none 0 0)], some (.sl (.st (.pair (.int .i64) (.pair (.sl (.int .i64)) (.pair (.sl (.int .i64)) (.st (.pair (.st (.pair (.sl (.int .i64)) .bool)) (.sl (.int .i64))))))))), none⟩),
  (62, ⟨.struct [(60, 0, 1), (3, 1, 1)], 2, 32, [.v (.slice none 0 0), .v (.int .i64 0)], some (.st (.pair (.sl (.st (.pair (.int .i64) (.pair (.sl (.int .i64)) (.pair (.sl (.int .i64)) (.st (.pair (.st (.pair (.sl (.int .i64)) .bool)) (.sl (.int .i64))))))))) (.int .i64))), none⟩),
  (64, ⟨.slice 194, 1, 24, [.v (.slice none 0 0)], some (.sl (.st (.pair (.int .i64) (.st (.pair (.sl (.int .i64)) .bool))))), none⟩),
  (65, ⟨.slice 28, 1, 24, [.v (.slice none 0 0)], some (.sl (.st (.pair (.st (.pair (.sl (.int .i64)) .bool)) (.sl (.int .i64))))), none⟩),
  (66, ⟨.slice 26, 1, 24, [.v (.slice none 0 0)], some (.sl (.st (.pair (.sl (.int .i64)) .bool))), none⟩),
  (67, ⟨.slice 197, 1, 24, [.v (.slice none 0 0)], some (.sl (.st (.pair (.int .i64) (.pair (.int .i64) (.pair (.sl (.int .i64)) (.pair (.sl (.int .i64)) (.pair (.int .i64) (.int .i64)))))))), none⟩),
  (69, ⟨.struct [(3, 0, 1), (64, 1, 1), (65, 2, 1), (66, 3, 1), (67, 4, 1), (3, 5, 1), (3, 6, 1)], 7, 120, [.v (.int .i64 0), .v (.slice none 0 0), .v (.slice none 0 0), .v (.slice none 0 0), .v (.slice none 0 0), .v (.int .i64 0), .v (.int .i64 0)], some (.st (.pair (.int .i64) (.pair (.sl (.st (.pair (.int .i64) (.st (.pair (.sl (.int .i64)) .bool))))) (.pair (.sl (.st (.pair (.st (.pair (.sl (.int .i64)) .bool)) (.sl (.int .i64))))) (.pair (.sl (.st (.pair (.sl (.int .i64)) .bool))) (.pair (.sl (.st (.pair (.int .i64) (.pair (.int .i64) (.pair (.sl (.int .i64)) (.pair (.sl (.int .i64)) (.pair (.int .i64) (.int .i64)))))))) (.pair (.int .i64) (.int .i64)))))))), none⟩),
  (77, ⟨.other, 1, 8, [.v (.nilFunc)], none, none⟩),
  (81, ⟨.other, 1, 8, [.v (.nilFunc)], none, none⟩),
  (82, ⟨.slice 20, 1, 24, [.v (.slice none 0 0)], some (.sl (.dy 3 (.int .i64) (.dy 22 (.int .u32) (.dy 23 (.sl (.int .u8)) (.dy 28 (.st (.pair (.st (.pair (.sl (.int .i64)) .bool)) (.sl (.int .i64)))) (.dy 9 .str (.dy 32 .flt .dn))))))), none⟩),
  (88, ⟨.struct [(3, 0, 1), (3, 1, 1), (3, 2, 1)], 3, 24, [.v (.int .i64 0), .v (.int .i64 0), .v (.int .i64 0)], some (.st (.pair (.int .i64) (.pair (.int .i64) (.int .i64)))), none⟩),
  (98, ⟨.struct [(3, 0, 1), (3, 1, 1)], 2, 16, [.v (.int .i64 0), .v (.int .i64 0)], some (.st (.pair (.int .i64) (.int .i64))), none⟩),
  (100, ⟨.struct [(4, 0, 1), (28, 1, 3), (98, 4, 2), (3, 6, 1)], 7, 88, [.v (.bool false), .v (.slice none 0 0), .v (.bool false), .v (.slice none 0 0), .v (.int .i64 0), .v (.int .i64 0), .v (.int .i64 0)], some (.st (.pair .bool (.pair (.st (.pair (.st (.pair (.sl (.int .i64)) .bool)) (.sl (.int .i64)))) (.pair (.st (.pair (.int .i64) (.int .i64))) (.int .i64))))), none⟩),
  (102, ⟨.map 98 100, 1, 8, [.v (.map none)], some (.mh 2), none⟩),
  (103, ⟨.map 98 3, 1, 8, [.v (.map none)], some (.mh 3), none⟩),
  (104, ⟨.map 231 3, 1, 8, [.v (.map none)], some (.mh 4), none⟩),
  (106, ⟨.struct [(102, 0, 1), (103, 1, 1), (104, 2, 1)], 3, 24, [.v (.map none), .v (.map none), .v (.map none)], some (.st (.pair (.mh 2) (.pair (.mh 3) (.mh 4)))), none⟩),
  (118, ⟨.slice 148, 1, 24, [.v (.slice none 0 0)], some (.sl (.hd 1)), none⟩),
  (120, ⟨.struct [(23, 0, 1), (118, 1, 1)], 2, 48, [.v (.slice none 0 0), .v (.slice none 0 0)], some (.st (.pair (.sl (.int .u8)) (.sl (.hd 1)))), none⟩),
  (122, ⟨.map 3 3, 1, 8, [.v (.map none)], some (.mh 6), none⟩),
  (123, ⟨.map 3 128, 1, 8, [.v (.map none)], some (.mh 7), none⟩),
  (124, ⟨.slice 131, 1, 24, [.v (.slice none 0 0)], some (.sl (.st (.pair (.int .u64) (.pair (.hd 10) (.int .i64))))), none⟩),
  (126, ⟨.struct [(3, 0, 1), (3, 1, 1), (39, 2, 1), (40, 3, 1), (122, 4, 1), (123, 5, 1), (124, 6, 1)], 7, 72, [.v (.int .i64 0), .v (.int .i64 0), .v (.pointer none), .v (.pointer none), .v (.map none), .v (.map none), .v (.slice none 0 0)], some (.st (.pair (.int .i64) (.pair (.int .i64) (.pair (.hd 5) (.pair (.hd 0) (.pair (.mh 6) (.pair (.mh 7) (.sl (.st (.pair (.int .u64) (.pair (.hd 10) (.int .i64)))))))))))), none⟩),
  (128, ⟨.struct [(69, 0, 7), (3, 7, 1)], 8, 128, [.v (.int .i64 0), .v (.slice none 0 0), .v (.slice none 0 0), .v (.slice none 0 0), .v (.slice none 0 0), .v (.int .i64 0), .v (.int .i64 0), .v (.int .i64 0)], some (.st (.pair (.st (.pair (.int .i64) (.pair (.sl (.st (.pair (.int .i64) (.st (.pair (.sl (.int .i64)) .bool))))) (.pair (.sl (.st (.pair (.st (.pair (.sl (.int .i64)) .bool)) (.sl (.int .i64))))) (.pair (.sl (.st (.pair (.sl (.int .i64)) .bool))) (.pair (.sl (.st (.pair (.int .i64) (.pair (.int .i64) (.pair (.sl (.int .i64)) (.pair (.sl (.int .i64)) (.pair (.int .i64) (.int .i64)))))))) (.pair (.int .i64) (.int .i64)))))))) (.int .i64))), none⟩),
  (129, ⟨.ptr 201, 1, 8, [.v (.pointer none)], some (.hd 10), none⟩),
  (131, ⟨.struct [(43, 0, 1), (129, 1, 1), (3, 2, 1)], 3, 24, [.v (.int .u64 0), .v (.pointer none), .v (.int .i64 0)], some (.st (.pair (.int .u64) (.pair (.hd 10) (.int .i64)))), none⟩),
  (143, ⟨.ptr 145, 1, 8, [.v (.pointer none)], none, none⟩),
  (145, ⟨.struct [(3, 0, 1), (50, 1, 1)], 2, 24, [.v (.int .i64 0), .v (.nilIface)], some (.st (.pair (.int .i64) .err)), none⟩),
  (148, ⟨.ptr 152, 1, 8, [.v (.pointer none)], some (.hd 1), none⟩),
  (150, ⟨.slice 154, 1, 24, [.v (.slice none 0 0)], some (.sl (.st (.pair (.int .i64) (.int .i64)))), none⟩),
  (152, ⟨.struct [(88, 0, 3), (150, 3, 1)], 4, 48, [.v (.int .i64 0), .v (.int .i64 0), .v (.int .i64 0), .v (.slice none 0 0)], some (.st (.pair (.st (.pair (.int .i64) (.pair (.int .i64) (.int .i64)))) (.sl (.st (.pair (.int .i64) (.int .i64)))))), none⟩),
  (154, ⟨.struct [(3, 0, 1), (3, 1, 1)], 2, 16, [.v (.int .i64 0), .v (.int .i64 0)], some (.st (.pair (.int .i64) (.int .i64))), none⟩),
  (158, ⟨.slice 88, 1, 24, [.v (.slice none 0 0)], some (.sl (.st (.pair (.int .i64) (.pair (.int .i64) (.int .i64))))), none⟩),
  (160, ⟨.ptr 162, 1, 8, [.v (.pointer none)], some (.hd 9), none⟩),
  (162, ⟨.struct [(23, 0, 1), (50, 1, 1)], 2, 40, [.v (.slice none 0 0), .v (.nilIface)], some (.st (.pair (.sl (.int .u8)) .err)), none⟩),
  (165, ⟨.other, 1, 8, [.v (.nilFunc)], none, none⟩),
  (172, ⟨.ptr 143, 1, 8, [.v (.pointer none)], none, none⟩),
  (174, ⟨.slice 50, 1, 24, [.v (.slice none 0 0)], some (.sl .err), none⟩),
  (177, ⟨.other, 1, 8, [.v (.nilFunc)], none, none⟩),
  (184, ⟨.other, 1, 8, [.v (.nilFunc)], none, none⟩),
  (194, ⟨.struct [(3, 0, 1), (26, 1, 2)], 3, 40, [.v (.int .i64 0), .v (.slice none 0 0), .v (.bool false)], some (.st (.pair (.int .i64) (.st (.pair (.sl (.int .i64)) .bool)))), none⟩),
  (197, ⟨.struct [(3, 0, 1), (3, 1, 1), (24, 2, 1), (24, 3, 1), (3, 4, 1), (3, 5, 1)], 6, 80, [.v (.int .i64 0), .v (.int .i64 0), .v (.slice none 0 0), .v (.slice none 0 0), .v (.int .i64 0), .v (.int .i64 0)], some (.st (.pair (.int .i64) (.pair (.int .i64) (.pair (.sl (.int .i64)) (.pair (.sl (.int .i64)) (.pair (.int .i64) (.int .i64))))))), none⟩),
  (201, ⟨.struct [(69, 0, 7), (65, 7, 1), (24, 8, 1), (3, 9, 1), (3, 10, 1), (3, 11, 1), (3, 12, 1), (23, 13, 1)], 14, 224, [.v (.int .i64 0), .v (.slice none 0 0), .v (.slice none 0 0), .v (.slice none 0 0), .v (.slice none 0 0), .v (.int .i64 0), .v (.int .i64 0), .v (.slice none 0 0), .v (.slice none 0 0), .v (.int .i64 0), .v (.int .i64 0), .v (.int .i64 0), .v (.int .i64 0), .v (.slice none 0 0)], some (.st (.pair (.st (.pair (.int .i64) (.pair (.sl (.st (.pair (.int .i64) (.st (.pair (.sl (.int .i64)) .bool))))) (.pair (.sl (.st (.pair (.st (.pair (.sl (.int .i64)) .bool)) (.sl (.int .i64))))) (.pair (.sl (.st (.pair (.sl (.int .i64)) .bool))) (.pair (.sl (.st (.pair (.int .i64) (.pair (.int .i64) (.pair (.sl (.int .i64)) (.pair (.sl (.int .i64)) (.pair (.int .i64) (.int .i64)))))))) (.pair (.int .i64) (.int .i64)))))))) (.pair (.sl (.st (.pair (.st (.pair (.sl (.int .i64)) .bool)) (.sl (.int .i64))))) (.pair (.sl (.int .i64)) (.pair (.int .i64) (.pair (.int .i64) (.pair (.int .i64) (.pair (.int .i64) (.sl (.int .u8)))))))))), none⟩),
  (217, ⟨.ptr 219, 1, 8, [.v (.pointer none)], some (.hd 11), none⟩),
  (219, ⟨.struct [(23, 0, 1), (3, 1, 1), (50, 2, 1)], 3, 48, [.v (.slice none 0 0), .v (.int .i64 0), .v (.nilIface)], some (.st (.pair (.sl (.int .u8)) (.pair (.int .i64) .err))), none⟩),
  (231, ⟨.struct [(98, 0, 2), (3, 2, 1)], 3, 24, [.v (.int .i64 0), .v (.int .i64 0), .v (.int .i64 0)], some (.st (.pair (.st (.pair (.int .i64) (.int .i64))) (.int .i64))), none⟩),
  (258, ⟨.ptr 260, 1, 8, [.v (.pointer none)], some (.hd 12), none⟩),
  (260, ⟨.struct [(23, 0, 1)], 1, 24, [.v (.slice none 0 0)], some (.st (.sl (.int .u8))), none⟩),
  (282, ⟨.slice 53, 1, 24, [.v (.slice none 0 0)], none, none⟩),
  (285, ⟨.int .i8, 1, 1, [.v (.int .i8 0)], some (.int .i8), none⟩),
  (293, ⟨.other, 1, 8, [.v (.nilFunc)], none, none⟩),
  (296, ⟨.slice 24, 1, 24, [.v (.slice none 0 0)], some (.sl (.sl (.int .i64))), none⟩),
  (302, ⟨.struct [(24, 0, 1), (66, 1, 1), (26, 2, 2), (66, 4, 1)], 5, 104, [.v (.slice none 0 0), .v (.slice none 0 0), .v (.slice none 0 0), .v (.bool false), .v (.slice none 0 0)], some (.st (.pair (.sl (.int .i64)) (.pair (.sl (.st (.pair (.sl (.int .i64)) .bool))) (.pair (.st (.pair (.sl (.int .i64)) .bool)) (.sl (.st (.pair (.sl (.int .i64)) .bool))))))), none⟩),
  (305, ⟨.slice 311, 1, 24, [.v (.slice none 0 0)], some (.sl (.st (.pair (.int .i64) (.pair (.int .i64) (.pair (.int .i64) (.int .i64)))))), none⟩),
  (311, ⟨.struct [(3, 0, 1), (3, 1, 1), (3, 2, 1), (3, 3, 1)], 4, 32, [.v (.int .i64 0), .v (.int .i64 0), .v (.int .i64 0), .v (.int .i64 0)], some (.st (.pair (.int .i64) (.pair (.int .i64) (.pair (.int .i64) (.int .i64))))), none⟩),
  (314, ⟨.ptr 69, 1, 8, [.v (.pointer none)], none, none⟩),
  (315, ⟨.slice 317, 1, 24, [.v (.slice none 0 0)], none, none⟩),
  (317, ⟨.arr 2 3, 2, 16, [.v (.int .i64 0), .v (.int .i64 0)], none, none⟩),
  (332, ⟨.slice 4, 1, 24, [.v (.slice none 0 0)], some (.sl .bool), none⟩),
  (335, ⟨.ptr 337, 1, 8, [.v (.pointer none)], none, none⟩),
  (337, ⟨.struct [(60, 0, 1), (66, 1, 1)], 2, 48, [.v (.slice none 0 0), .v (.slice none 0 0)], some (.st (.pair (.sl (.st (.pair (.int .i64) (.pair (.sl (.int .i64)) (.pair (.sl (.int .i64)) (.st (.pair (.st (.pair (.sl (.int .i64)) .bool)) (.sl (.int .i64))))))))) (.sl (.st (.pair (.sl (.int .i64)) .bool))))), none⟩),
  (340, ⟨.other, 1, 8, [.v (.nilFunc)], none, none⟩),
  (341, ⟨.ptr 344, 1, 8, [.v (.pointer none)], none, none⟩),
  (342, ⟨.map 3 26, 1, 8, [.v (.map none)], none, none⟩),
  (344, ⟨.struct [(302, 0, 5), (4, 5, 1), (342, 6, 1)], 7, 120, [.v (.slice none 0 0), .v (.slice none 0 0), .v (.slice none 0 0), .v (.bool false), .v (.slice none 0 0), .v (.bool false), .v (.map none)], none, none⟩),
  (370, ⟨.other, 1, 8, [.v (.nilFunc)], none, none⟩)]

def fns : List Nat := [33, 34, 66, 67, 35, 69, 36, 15, 77, 133, 76, 61, 114, 62, 64, 89, 88, 149, 168, 150, 112, 152, 117, 78, 63, 31, 32, 12, 153, 187, 154, 118, 95, 94, 48, 119, 142, 85, 86, 87, 39, 40, 120, 91, 90, 42, 19, 70, 190, 224, 188, 231, 225, 226, 215, 171, 182, 272, 273, 269, 284, 274, 275, 276, 285, 277, 278, 279, 247, 287, 286, 280, 251, 252, 243, 227, 191, 156, 189, 155, 121, 228, 192, 193, 194, 229, 195, 196, 197, 199, 198, 253, 230, 201, 200, 157, 158, 159, 202, 160, 161, 122, 71, 167, 125, 162, 128, 127, 163, 126, 130, 132, 123, 262, 239, 282, 263, 264, 240, 172, 208, 235, 207, 232, 210, 254, 281, 255, 217, 244, 218, 245, 219, 268, 246, 220, 248, 270, 249, 221, 184, 233, 203, 234, 204, 164, 256, 257, 258, 261, 238, 260, 259, 236, 205, 237, 206, 165, 288, 283, 265, 266, 241, 267, 242, 209, 211, 212, 213, 166, 124, 72, 129, 131, 73, 134, 41, 17, 170, 135, 74, 136, 75, 137, 79, 80, 81, 37, 84, 83, 38, 16, 18, 9, 30, 10, 11, 13, 3]
def gbs : List Nat := [0, 1, 2, 3, 4, 5, 6, 7, 8, 9, 10, 12, 13, 14, 15, 16, 17, 18, 19, 20, 21]
abbrev ErrRange : Nat := 0
abbrev ErrNone : Nat := 1
abbrev ErrStale : Nat := 2
abbrev ErrFuel : Nat := 3
abbrev ErrShape : Nat := 4
abbrev ErrRoom : Nat := 5
abbrev ErrKind : Nat := 6
abbrev ErrMany : Nat := 7
abbrev ErrFull : Nat := 8
abbrev ErrEnd : Nat := 9
abbrev ErrCap : Nat := 10
abbrev ErrAlias : Nat := 12
abbrev ErrCost : Nat := 13
abbrev ErrJump : Nat := 14
abbrev ErrCycle : Nat := 15
abbrev ErrQuota : Nat := 16
abbrev ErrTag : Nat := 17
abbrev ErrOld : Nat := 18
abbrev ErrTenant : Nat := 19
abbrev ErrWord : Nat := 20
abbrev ErrNumber : Nat := 21

def exts : List (FuncId × ExtK) := []
def knds : List (List Cell) := [[.sl (.int .u8), .sl (.hd 1)], [.d (.int .i64), .d (.int .i64), .d (.int .i64), .sl (.st (.pair (.int .i64) (.int .i64)))], [.d .nat, .d (.sl (.pair (.st (.pair (.int .i64) (.int .i64))) (.pair (.st (.pair .bool (.pair (.st (.pair (.st (.pair (.sl (.int .i64)) .bool)) (.sl (.int .i64)))) (.pair (.st (.pair (.int .i64) (.int .i64))) (.int .i64))))) .nat)))], [.d .nat, .d (.sl (.pair (.st (.pair (.int .i64) (.int .i64))) (.pair (.int .i64) .nat)))], [.d .nat, .d (.sl (.pair (.st (.pair (.st (.pair (.int .i64) (.int .i64))) (.int .i64))) (.pair (.int .i64) .nat)))], [.d (.mh 2), .d (.mh 3), .d (.mh 4)], [.d .nat, .d (.sl (.pair (.int .i64) (.pair (.int .i64) .nat)))], [.d .nat, .d (.sl (.pair (.int .i64) (.pair (.st (.pair (.st (.pair (.int .i64) (.pair (.sl (.st (.pair (.int .i64) (.st (.pair (.sl (.int .i64)) .bool))))) (.pair (.sl (.st (.pair (.st (.pair (.sl (.int .i64)) .bool)) (.sl (.int .i64))))) (.pair (.sl (.st (.pair (.sl (.int .i64)) .bool))) (.pair (.sl (.st (.pair (.int .i64) (.pair (.int .i64) (.pair (.sl (.int .i64)) (.pair (.sl (.int .i64)) (.pair (.int .i64) (.int .i64)))))))) (.pair (.int .i64) (.int .i64)))))))) (.int .i64))) .nat)))], [.d (.int .i64), .d (.int .i64), .d (.hd 5), .d (.hd 0), .d (.mh 6), .d (.mh 7), .sl (.st (.pair (.int .u64) (.pair (.hd 10) (.int .i64))))], [.d (.sl (.int .u8)), .d .err], [.d (.int .i64), .d (.sl (.st (.pair (.int .i64) (.st (.pair (.sl (.int .i64)) .bool))))), .d (.sl (.st (.pair (.st (.pair (.sl (.int .i64)) .bool)) (.sl (.int .i64))))), .d (.sl (.st (.pair (.sl (.int .i64)) .bool))), .d (.sl (.st (.pair (.int .i64) (.pair (.int .i64) (.pair (.sl (.int .i64)) (.pair (.sl (.int .i64)) (.pair (.int .i64) (.int .i64)))))))), .d (.int .i64), .d (.int .i64), .sl (.st (.pair (.st (.pair (.sl (.int .i64)) .bool)) (.sl (.int .i64)))), .sl (.int .i64), .d (.int .i64), .d (.int .i64), .d (.int .i64), .d (.int .i64), .sl (.int .u8)], [.d (.sl (.int .u8)), .d (.int .i64), .d .err], [.sl (.int .u8)]]
def kts : List (TypeId × Nat) := [(120, 0), (152, 1), (106, 5), (126, 8), (162, 9), (201, 10), (219, 11), (260, 12)]
def mks : List (TypeId × Nat) := [(102, 2), (103, 3), (104, 4), (122, 6), (123, 7)]
def keys : List (TypeId × Ty) := [(98, (.st (.pair (.int .i64) (.int .i64)))), (231, (.st (.pair (.st (.pair (.int .i64) (.int .i64))) (.int .i64)))), (3, (.int .i64))]
def xgs : List (Nat × List AV) := [(11, [.iface 270 (.agg [.v (.pointer (some ⟨22, 50, none⟩))])])]
def kss : List (FuncId × List Nat) := [(33, [2, 3, 4, 5]), (34, [0, 1]), (66, [0, 1]), (35, [0, 1]), (69, [0, 1]), (36, [0, 1, 2, 3, 4, 5, 6, 7, 8, 10]), (15, [0, 1, 2, 3, 4, 5, 6, 7, 8, 10]), (77, [9]), (133, [9]), (76, [9]), (117, [9]), (78, [9]), (153, [0, 1]), (187, [0, 1]), (154, [0, 1]), (118, [0, 1, 2, 3, 4, 5, 6, 7, 8, 10]), (48, [0, 1]), (119, [0, 1, 2, 3, 4, 5, 6, 7, 8, 10]), (120, [2, 3, 4, 5]), (90, [0, 1]), (42, [0, 1]), (19, [0, 1]), (70, [0, 1, 2, 3, 4, 5, 6, 7, 8, 9, 10]), (158, [12]), (159, [12]), (202, [12]), (160, [12]), (161, [12]), (122, [12]), (71, [0, 1, 2, 3, 4, 5, 6, 7, 8, 9, 10, 12]), (167, [11]), (125, [11]), (162, [11]), (128, [11]), (127, [11]), (163, [11]), (126, [11]), (130, [11]), (132, [11]), (123, [11]), (72, [11]), (129, [11]), (131, [11]), (73, [11]), (134, [9]), (41, [2, 3, 4, 5]), (17, [2, 3, 4, 5]), (135, [10]), (74, [0, 1, 2, 3, 4, 5, 6, 7, 8, 9, 10]), (136, [2, 3, 4, 5]), (75, [0, 1, 2, 3, 4, 5, 6, 7, 8, 9, 10]), (137, [2, 3, 4, 5]), (79, [2, 3, 4, 5]), (80, [2, 3, 4, 5]), (81, [2, 3, 4, 5]), (37, [0, 1, 2, 3, 4, 5, 6, 7, 8, 9, 10, 11, 12]), (16, [0, 1, 2, 3, 4, 5, 6, 7, 8, 9, 10, 11, 12]), (9, [0, 1, 2, 3, 4, 5, 6, 7, 8, 9, 10, 11, 12]), (3, [0, 1, 2, 3, 4, 5, 6, 7, 8, 9, 10, 11, 12])]
def lsts : List (FuncId × LstK) := [(68, .ins 1 8), (65, .app .put), (186, .ins 2 16), (96, .del 2), (82, .asE 172 385 143 11 270 22 50)]
noncomputable def E : Eng.Env := mkEnvM Tryz.prog nms tys fns gbs exts knds kts kss lsts mks keys xgs

set_option maxRecDepth 100000 in
theorem tys_ok : TysOK Tryz.prog nms tys := ⟨by kernel_rfl, by kernel_rfl, by kernel_rfl, by kernel_rfl, by kernel_rfl, by kernel_rfl, by kernel_rfl, by kernel_rfl, by kernel_rfl, by kernel_rfl, by kernel_rfl, by kernel_rfl, by kernel_rfl, by kernel_rfl, by kernel_rfl, by kernel_rfl, by kernel_rfl, by kernel_rfl, by kernel_rfl, by kernel_rfl, by kernel_rfl, by kernel_rfl, by kernel_rfl, by kernel_rfl, by kernel_rfl, by kernel_rfl, by kernel_rfl, by kernel_rfl, by kernel_rfl, by kernel_rfl, by kernel_rfl, by kernel_rfl, by kernel_rfl, by kernel_rfl, by kernel_rfl, by kernel_rfl, by kernel_rfl, by kernel_rfl, by kernel_rfl, by kernel_rfl, by kernel_rfl, by kernel_rfl, by kernel_rfl, by kernel_rfl, by kernel_rfl, by kernel_rfl, by kernel_rfl, by kernel_rfl, by kernel_rfl, by kernel_rfl, by kernel_rfl, by kernel_rfl, by kernel_rfl, by kernel_rfl, by kernel_rfl, by kernel_rfl, by kernel_rfl, by kernel_rfl, by kernel_rfl, by kernel_rfl, by kernel_rfl, by kernel_rfl, by kernel_rfl, by kernel_rfl, by kernel_rfl, by kernel_rfl, by kernel_rfl, by kernel_rfl, by kernel_rfl, by kernel_rfl, by kernel_rfl, by kernel_rfl, by kernel_rfl, by kernel_rfl, by kernel_rfl, by kernel_rfl, by kernel_rfl, by kernel_rfl, by kernel_rfl, by kernel_rfl, by kernel_rfl, by kernel_rfl, by kernel_rfl, by kernel_rfl, by kernel_rfl, by kernel_rfl, by kernel_rfl, by kernel_rfl, trivial⟩
theorem E_ok : EnvOK Tryz.prog E := mkEnvM_ok (mkEnvK_ok (mkEnvX_ok (mkEnv_ok tys_ok.mem (fnsOK.mem (by kernel_rfl))) (.nil)) (by kernel_rfl) (.cons ⟨_, Tryz.func68, by kernel_rfl, by kernel_rfl⟩ LxLst.I68.ok (.cons ⟨_, Tryz.func65, by kernel_rfl, by kernel_rfl⟩ LxLst.P65.ok (.cons ⟨_, Tryz.func186, by kernel_rfl, by kernel_rfl⟩ LxLst.I186.ok (.cons ⟨_, Tryz.func96, by kernel_rfl, by kernel_rfl⟩ LxLst.D96.ok (.cons ⟨_, Tryz.func82, by kernel_rfl, by kernel_rfl⟩ LxLst.A82.ok (.nil))))))) (.cons (KeyOK.two (by kernel_rfl)) (.cons (KeyOK.three (u := 98) (by kernel_rfl)) (.cons (KeyOK.int (by kernel_rfl)) (.nil))))
theorem mixed : Tryz.prog.follows .mixedOrders = true := by kernel_rfl

end Go.Proofs.YtpekhdbkekiblaaGreatDoor.Lx
