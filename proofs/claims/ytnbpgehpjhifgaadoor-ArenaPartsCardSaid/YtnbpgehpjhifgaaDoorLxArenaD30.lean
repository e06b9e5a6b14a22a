/-
  slices.Delete at a slice type, walked.
-/
import Derived.Test.YtnbpgehpjhifgaaDoorProg
import Derived.Test.YtnbpgehpjhifgaaDoorLxLstA
import Derived.KernelRfl
import Derived.WalkKit
import Derived.Deep.LoopGhost
import Derived.Deep.RegionLaw
import Derived.Lib.Walk
import Derived.Shelf.RegionOpenPlain
import Derived.Sort.WalkB12
namespace Go.Proofs.LxLst.D30
open Go Go.Eng Go.RowKit Go.Lib

theorem underS : Tryd.prog.underlying 62 = some (.slice 66) := by kernel_rfl
theorem infoE : (Tryd.prog.info? 66).map (fun i => (i.zero, i.size, i.bytes)) = some (some (.agg #[.int .i64 0, .int .i64 0]), 2, 16) := by kernel_rfl
theorem mixed' : Tryd.prog.follows .mixedOrders = true := by kernel_rfl

set_option maxHeartbeats 4000000 in
set_option maxRecDepth 1000000 in
theorem ok : LstOK Tryd.prog 30 (.del 2) := by
  intro w n ad cap F i j hrow hn hij hj
  obtain ⟨hnc, hFl, hF1, hpl⟩ := hrow
  rcases hpl with h0 | ⟨b, off, cs, T, rfl, hh, hroom, hat⟩
  · omega
  have mixed := mixed'
  have t62 := underS
  obtain ⟨i0, hi0, hz0, hz1, hz2⟩ := info_parts infoE
  by_cases heq : i = j
  · subst heq
    have h0 : Calls Tryd.prog 30 #[.slice (some ⟨b, off, none⟩) n cap, .int .i64 i, .int .i64 i] w fun e w' => e = .returned (.slice (some ⟨b, off, none⟩) n cap) ∧ w' = w := by
      clear hat hroom hh hF1 hFl
      go_enter Tryd.func30, Tryd.ntmps30
      go_wp2
      all_goals (go_ret; exact ⟨rfl, rfl⟩)
    refine h0.mono ?_
    rintro e w' ⟨rfl, rfl⟩
    refine ⟨_, rfl, IO.refl _, ?_, cap, by omega, .inl ⟨b, off, cs, cs, T, rfl, hh, by rw [Nat.sub_self, Nat.sub_zero], Nat.le_refl _, by omega, rfl, hh, rfl, fun _ _ => rfl, fun k x hk => ?_⟩⟩
    · simp only [List.length_append, List.length_take, List.length_drop]; omega
    · rw [List.take_append_drop] at hk; exact hat k x hk
  · have hlt : i < j := by omega
    obtain ⟨news, hnews⟩ : ∃ news, news = F.drop (j * 2) := ⟨_, rfl⟩
    have hlen : news.length = (n - j) * 2 := by rw [hnews, List.length_drop, hFl]; omega
    obtain ⟨A, hA, hsrc⟩ : ∃ A : Addr, (if cap = j then some (⟨b, off, none⟩ : Addr) else some ⟨b, off + j * 2, none⟩) = some A ∧ Hid (∀ t u, news[t]? = some u → w.drew.cell? (A.add t) = some u) := by
      by_cases h : cap = j
      · refine ⟨⟨b, off, none⟩, by simp [h], fun t u hu => ?_⟩
        have h0 : news.length = 0 := by rw [hlen]; omega
        rw [List.length_eq_zero_iff.1 h0] at hu
        simp at hu
      · refine ⟨⟨b, off + j * 2, none⟩, by simp [h], fun t u hu => ?_⟩
        rw [hnews, List.getElem?_drop] at hu
        rw [Addr.add_lit]
        show w.cell? _ = some u
        rw [cell?_cells hh, Nat.add_assoc]
        exact hat _ _ hu
    have s1 : Hid (news.length = (n - j) * 2) := hlen
    have s2 : Hid (∀ u ∈ news, u.oneCell' = true) := fun u hu => hF1 u (by rw [hnews] at hu; exact List.mem_of_mem_drop hu)
    have s3 : Hid (∀ t, t < news.length → (w.drew.cell? ⟨b, off + i * 2 + t, none⟩).isSome = true ∧ w.drew.frozen? ⟨b, off + i * 2 + t, none⟩ = false) := by
      intro t ht
      rw [hlen] at ht
      exact ⟨cell_isSome (w := w.drew) hh (by omega), frozen_no (w := w.drew) hh⟩
    obtain ⟨W1, hW1⟩ : ∃ W1, W1 = w.drew.setCells b (off + i * 2) news := ⟨_, rfl⟩
    obtain ⟨g1, g2, g3, g4⟩ := heap_setCells news (off + i * 2) w.drew cs (show w.drew.heap[b]? = _ from hh)
    rw [← hW1] at g1 g2 g3 g4
    have hcl : ∀ ty, (Builtin.clear_ #[62] ty #[.slice (some ⟨b, off + (i + (n - j)) * 2, none⟩) (n - (i + (n - j))) (cap - (i + (n - j)))]).run Tryd.prog W1 = .ok (.tuple #[]) (W1.setCells b (off + (i + (n - j)) * 2) (Builtin.zeroCells (.agg #[.int .i64 0, .int .i64 0] : Value).cells (n - (i + (n - j)))).toList) :=
      fun ty => run_clear_row W1 _ _ ty _ t62 Tryd.zeroValue66 g1 (by
        rw [wrAt_size]
        show _ + _ * 2 ≤ _
        omega) (by intro v hv; simp [Value.cells] at hv; rcases hv with rfl | rfl <;> rfl)
    have hW : Hid (W1 = w.drew.setCells b (off + i * 2) news) := hW1
    obtain ⟨W2, hW2⟩ : ∃ W2, W2 = W1.setCells b (off + (i + (n - j)) * 2) (Builtin.zeroCells (.agg #[.int .i64 0, .int .i64 0] : Value).cells (n - (i + (n - j)))).toList := ⟨_, rfl⟩
    obtain ⟨k1, k2, k3, k4⟩ := heap_setCells (Builtin.zeroCells (.agg #[.int .i64 0, .int .i64 0] : Value).cells (n - (i + (n - j)))).toList (off + (i + (n - j)) * 2) W1 _ g1
    rw [← hW2] at hcl k1 k2 k3 k4
    have key : Calls Tryd.prog 30 #[.slice (some ⟨b, off, none⟩) n cap, .int .i64 i, .int .i64 j] w fun e w' => e = .returned (.slice (some ⟨b, off, none⟩) (i + (n - j)) cap) ∧ w' = W2 := by
      have hic : i ≤ cap := by omega
      have hjc : j ≤ cap := by omega
      clear hW1 hW2 hnews hlen hat hroom hh g1 g2 g3 g4 k1 k2 k3 k4 hF1 hFl
      go_enter Tryd.func30, Tryd.ntmps30
      go_wp2_with fail
      go_region_law_o (refine step_append_room rfl (.tmp 22) (.tmp 25) 62 rfl 66 i0 2 t62 hi0 hz1 b off i cap (by simp [Act.eval, Act.put]) A (n - j) (cap - j) news (by simp [Act.eval, Act.put]) s1.out hsrc.out s2.out (by omega) s3.out ?_; rw [← hW.out])
      go_wp2
      go_ret
      exact ⟨rfl, rfl⟩
    refine key.mono ?_
    rintro e w' ⟨rfl, rfl⟩
    refine ⟨_, rfl, IO.trans (show IO w W1 from g4) k4, ?_, cap, by omega, .inl ⟨b, off, cs, _, T, rfl, hh, by rw [show n - (j - i) = i + (n - j) by omega], Nat.le_refl _, by omega, k2.trans g2, k1, by rw [wrAt_size, wrAt_size], fun k hk => (k3 k hk).trans (g3 k hk), fun k x hk => ?_⟩⟩
    · simp only [List.length_append, List.length_take, List.length_drop]; omega
    · have hkl := (List.getElem?_eq_some_iff.1 hk).1
      rw [List.length_append, List.length_take, List.length_drop] at hkl
      rw [wrAt_out _ _ _ _ (.inl (by omega))]
      rw [List.getElem?_append] at hk
      split at hk
      · rename_i h1
        rw [List.length_take] at h1
        rw [wrAt_out _ _ _ _ (.inl (by omega))]
        rw [List.getElem?_take] at hk
        split at hk
        · exact hat k x hk
        · cases hk
      · rename_i h1
        rw [List.length_take] at h1
        rw [List.length_take] at hk
        have hmin : min (i * 2) F.length = i * 2 := by rw [hFl]; omega
        rw [hmin] at hk h1
        rw [show off + k = off + i * 2 + (k - i * 2) from by omega, wrAt_in _ _ _ _ (by rw [hlen]; omega) (by omega), hnews]
        exact hk

end Go.Proofs.LxLst.D30
