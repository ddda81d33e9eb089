/- chequerlaw17.lives. -/
import Derived.Test.YtlkiajepahkliaaKColsMore
import Derived.Test.YtlkiajepahkliaaPSamex1
namespace Go.Proofs.Ytlkiajepahkliaa
open Go.RowKit Go.Proofs.YtlkiajepahkliaaW.PrintWords
set_option linter.unusedVariables false
set_option linter.unusedSimpArgs false

theorem C_ints {w : World} {k : IntKind} {b off : Nat} {l : List Int} (h : ∀ i, i < l.length → w.cell? ⟨b, off + i, none⟩ = some (.int k (l.getD i 0))) (hl : l.length ≤ 9223372036854775807) : (Kd.int k).C w (some ⟨b, off, none⟩) l.length l := by
  obtain ⟨A, c, hv, _, hC⟩ := C_of_intRow (v := .slice (some ⟨b, off, none⟩) l.length l.length) (l := l) ⟨_, _, rfl, Nat.le_refl _, by
    rcases Nat.eq_zero_or_pos l.length with h0 | h0
    · exact .inl h0
    · exact .inr ⟨b, off, rfl, h⟩⟩ hl
  injection hv with hA
  rw [hA]; exact hC
theorem C_rows {w : World} {k : IntKind} {e b off : Nat} {ls : List (List Int)} (h : ∀ i, i < ls.length → ∃ A c, w.cell? ⟨b, off + i, none⟩ = some (.slice A (ls.getD i []).length c) ∧ (ls.getD i []).length ≤ c ∧ (Kd.int k).C w A (ls.getD i []).length (ls.getD i [])) (hl : ls.length ≤ 9223372036854775807) :
    (Kd.slice e (Kd.int k)).C w (some ⟨b, off, none⟩) ls.length ls := by
  refine ⟨rfl, hl, fun hn => ⟨_, rfl, fun j p hj => ?_⟩⟩
  have hjl : j < ls.length := (List.getElem?_eq_some_iff.1 hj).1
  obtain ⟨A, c, h1, h2, h3⟩ := h j hjl
  have hp : ls.getD j [] = p := by rw [List.getD_eq_getElem?_getD, hj]; rfl
  rw [hp] at h1 h2 h3
  refine ⟨[.slice A p.length c], rfl, ⟨A, c, rfl, h2, h3⟩, fun i u hu => ?_⟩
  cases i with
  | zero =>
    have : u = .slice A p.length c := by simpa using hu.symm
    rw [this]
    have h9 : (Kd.slice e (Kd.int k)).sz = 1 := rfl
    rw [h9, Nat.mul_one, Nat.add_zero, addr_add]
    exact h1
  | succ i => simp at hu
/-- A row of one or two numbers that was just made. -/
theorem F_lit {w w' : World} {k : IntKind} {b : Nat} {t : TypeId} (l : List Int) (h : w.heap[b]? = some (.cells (l.map (.int k)).toArray t (0, 0))) (hl : l.length ≤ 1000) (ok : Nat → Prop) (hok : ok b) : Kd.F (Kd.int k) w ok (some ⟨b, 0, none⟩) l.length l := by
  intro W' hW
  have hb := (Array.getElem?_eq_some_iff.1 h).1
  have h' := (hW b hok hb).trans h
  refine C_ints (fun i hi => ?_) (by omega)
  rw [Nat.zero_add, cell_of_row W' b i _ _ (0, 0) h']
  simp [hi]
theorem F_cells {w : World} {k : IntKind} {b off : Nat} {l : List Int} {ok : Nat → Prop} (h : ∀ i, i < l.length → w.cell? ⟨b, off + i, none⟩ = some (.int k (l.getD i 0))) (hl : l.length ≤ 9223372036854775807) (hok : ok b) : Kd.F (Kd.int k) w ok (some ⟨b, off, none⟩) l.length l := by
  intro W' hW
  refine C_ints (fun i hi => ?_) hl
  have h1 := h i hi
  have hb := World.block_lt_of_cell? w _ h1
  exact (World.cell?_of_block (hW b hok hb)).trans h1
theorem drewN_below (w : World) (n : Nat) : Below w.heap.size w (w.drewN n) := ⟨rfl, rfl, rfl, Nat.le_refl _, fun _ _ => rfl⟩

theorem lives_ok : ColsOk [[1, 2]] := ⟨by decide, by decide, by decide⟩
theorem lives_o1 : (List.zipWith sinceStep (List.replicate 1 []) [1]).map (endingOf [[1, 2]]) = [[]] := by decide
theorem lives_o2 : (List.zipWith sinceStep (List.zipWith sinceStep (List.replicate 1 []) [1]) [2]).map (endingOf [[1, 2]]) = [[0]] := by decide

set_option maxRecDepth 100000 in
set_option maxHeartbeats 4000000 in
theorem lives17_calls (w : World) : Calls Try.prog 23 #[] w fun e w' => e = .returned (.bool true) ∧ Below w.heap.size w w' := by
  go_enter Try.func23, Try.ntmps23
  go_wp2_with fail
  have hw2 : ((w.alloc (.cells #[.int .i64 1, .int .i64 2] 3)).alloc (.cells #[.slice (some ⟨w.heap.size, 0, none⟩) 2 2] 31)).heap[w.heap.size]? = some (.cells #[.int .i64 1, .int .i64 2] 3 (0, 0)) := heap_alloc2_old _ _ _
  have hw3 : ((w.alloc (.cells #[.int .i64 1, .int .i64 2] 3)).alloc (.cells #[.slice (some ⟨w.heap.size, 0, none⟩) 2 2] 31)).heap[w.heap.size + 1]? = some (.cells #[.slice (some ⟨w.heap.size, 0, none⟩) 2 2] 31 (0, 0)) := heap_alloc2_new _ _ _
  have hB2 : Below w.heap.size w ((w.alloc (.cells #[.int .i64 1, .int .i64 2] 3)).alloc (.cells #[.slice (some ⟨w.heap.size, 0, none⟩) 2 2] 31)) := ((Below.refl _ _).alloc (Nat.le_refl _) _).alloc (by simp) _
  have hC := Lib.hid (C_rows (k := .i64) (e := 3) (b := w.heap.size + 1) (off := 0) (ls := [[1, 2]]) (w := (w.alloc (.cells #[.int .i64 1, .int .i64 2] 3)).alloc (.cells #[.slice (some ⟨w.heap.size, 0, none⟩) 2 2] 31)) (fun i hi => by
    have hi0 : i = 0 := by simpa using hi
    subst hi0
    refine ⟨some ⟨w.heap.size, 0, none⟩, 2, by rw [cell_of_row _ _ _ _ _ (0, 0) hw3]; rfl, by decide, ?_⟩
    exact Kd.F_now (F_lit (w' := w) [1, 2] hw2 (by decide) (fun _ => True) trivial)) (by decide))
  refine (told_new (some ⟨w.heap.size + 1, 0, none⟩) 1 [[1, 2]] 1 _ hC.out (by decide) lives_ok (by decide)).mono ?_
  rintro e w3 ⟨bm, rfl, hT, hb3⟩
  have hT' := Lib.hid hT
  have hB3 := Lib.hid (hB2.trans (hb3.mono hB2.size))
  clear hw2 hw3 hC hT hB2 hb3
  obtain ⟨N2, hN2⟩ : ∃ N2, ((w.alloc (.cells #[.int .i64 1, .int .i64 2] 3)).alloc (.cells #[.slice (some ⟨w.heap.size, 0, none⟩) 2 2] 31)).heap.size = N2 := ⟨_, rfl⟩
  have hN2w : w.heap.size ≤ N2 := by rw [← hN2]; simp only [World.size_alloc]; omega
  rw [hN2] at hT'
  clear hN2
  go_wp2_with fail
  refine (told_row (fun k => N2 ≤ k ∧ k < w3.heap.size) bm 0 [[1, 2]] _ _ (hT'.out.below ((Below.refl _ _).alloc (Nat.le_refl _) _)) lives_ok (fun k hk => by simp; omega) (some ⟨w3.heap.size, 0, none⟩) 1 [1] (fun k => k = w3.heap.size)
    (F_lit (w' := w) [1] (World.alloc_heap_new w3 _) (by decide) _ rfl) (fun k hk h => by omega) (by decide) (by decide) (by decide) (by decide) (by decide)).mono ?_
  rintro e w5 ⟨go5, rfl, hF5, hT5, hm5⟩
  have hF5' := Lib.hid hF5
  have hT5' := Lib.hid hT5
  have hB5 := Lib.hid ((hB3.out.alloc hB3.out.size (.cells #[.int .i64 1] 3)).trans (hm5.below (by simp; have := hB3.out.size; omega) (fun k hk h => by omega)))
  have hsz5 : w3.heap.size + 1 ≤ w5.heap.size := by have := hm5.size; simpa using this
  clear hF5 hT5 hm5
  go_wp2_with fail
  refine (told_row (fun k => N2 ≤ k ∧ k < w3.heap.size) bm 1 [[1, 2]] _ _ (hT5'.out.below ((Below.refl _ _).alloc (Nat.le_refl _) _)) lives_ok (fun k hk => by simp; omega) (some ⟨w5.heap.size, 0, none⟩) 1 [2] (fun k => k = w5.heap.size)
    (F_lit (w' := w) [2] (World.alloc_heap_new w5 _) (by decide) _ rfl) (fun k hk h => by omega) (by decide) (by decide) (by decide) (by decide) (by decide)).mono ?_
  rintro e w7 ⟨go7, rfl, hF7, hT7, hm7⟩
  rw [lives_o2] at hF7
  have hF5c := hF5'.out
  rw [lives_o1] at hF5c
  have hF5b : Kd.F (Kd.slice 3 (Kd.int .i64)) w7 (fun k => w3.heap.size + 1 ≤ k) (some ⟨go5, 0, none⟩) 1 [[]] := Kd.F_step (Kd.F_mono (ok' := fun k => w3.heap.size + 1 ≤ k) hF5c (fun k hk => by simpa using hk)) (fun k hk hlt => (hm7.block k (by simp; omega) (fun h => by omega)).trans (Below.heap_alloc _ _ _ hlt))
  have hB7 := Lib.hid ((hB5.out.alloc hB5.out.size (.cells #[.int .i64 2] 3)).trans (hm7.below (by simp; have := hB5.out.size; omega) (fun k hk h => by omega)))
  obtain ⟨b1, o1, A1, c1, e1, a1, _, _⟩ := rows_get (Kd.F_now hF5b) (i := 0) (by decide)
  injection e1 with e1; injection e1 with e1 e2; subst e1; subst e2
  obtain ⟨b2, o2, A2, c2, e1, a2, hc2, hC2⟩ := rows_get (Kd.F_now hF7) (i := 0) (by decide)
  injection e1 with e1; injection e1 with e1 e2; subst e1; subst e2
  simp only [List.getD_cons_zero, List.length_nil, List.length_cons, Nat.zero_add] at a1 a2 hc2 hC2
  have hC2' := Lib.hid hC2
  clear hF7 hT7 hm7 hF5c hF5b hC2 hT5' hF5' hT'
  go_wp2_with fail
  have hnew := World.alloc_heap_new w7 (.cells #[.int .i64 0] 3)
  refine (PSame.chequerref01_Same.calls 3 A2 c2 [0] (some ⟨w7.heap.size, 0, none⟩) 1 [0] true _ (Kd.C_below hC2'.out ((Below.refl _ _).alloc (Nat.le_refl _) _)) hc2 (Kd.F_now (F_lit (w' := w) [0] hnew (by decide) (fun _ => True) trivial)) (by decide) (by decide +kernel)).mono ?_
  rintro e w9 ⟨rfl, ⟨nd, rfl⟩⟩
  clear hnew
  go_wp2_with fail
  go_ret
  exact ⟨rfl, (hB7.out.alloc hB7.out.size _).trans ((drewN_below _ _).mono (by simp; have := hB7.out.size; omega))⟩
end Go.Proofs.Ytlkiajepahkliaa
