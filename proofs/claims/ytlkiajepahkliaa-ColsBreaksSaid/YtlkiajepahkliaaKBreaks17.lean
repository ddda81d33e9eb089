/- chequerlaw17.ColsBreaks: the walk. -/
import Derived.Test.YtlkiajepahkliaaKLawAid
import Derived.Test.YtlkiajepahkliaaKOwn17
import Derived.Test.YtlkiajepahkliaaWTab
namespace Go.Proofs.Ytlkiajepahkliaa
open Go.RowKit Go.Proofs.YtlkiajepahkliaaW.PrintWords Go.Proofs.YtlkiajepahkliaaW.PrintLast
set_option linter.unusedVariables false
set_option linter.unusedSimpArgs false

def brk23_T : Bool × List (List Nat × List Nat) := (true, [([], []), ([0], [0]), ([1], [1]), ([], []), ([3], [3]), ([4], [4]), ([2, 5], [2, 5]), ([6], [6]), ([7, 6], [7]), ([8], [8]), ([9, 8], [8, 9]), ([10, 8], [8, 10]), ([8], [8]), ([12, 8], [8, 12]), ([13, 8], [8, 13]), ([11, 14, 8, 8], [8, 11, 14]), ([15, 8], [8, 15]), ([8, 16], [8, 16]), ([17, 15], [17]), ([18], [18]), ([19, 18, 18], [18, 19]), ([18], [18]), ([21, 20, 18], [18, 21]), ([20, 22, 22, 18], [18, 20, 22]), ([23, 18], [18, 23]), ([18, 24], [18, 24])])
def brk23_B : List Nat := [0, 1, 3, 0, 8, 24, 63, 127, 255, 511, 1023, 2047, 511, 4607, 12799, 32767, 65535, 131071, 262143, 524287, 1048575, 524287, 4194303, 8388607, 16777215, 33554431]
theorem brk23_tab : rtab .any (opsOf Try.f6 23) = brk23_T := by kernel_rfl
theorem brk23_bits : waitsOk brk23_T.2 brk23_B = true := by kernel_rfl
theorem zip_breaks {ss : List (List Int)} (h : ss.length = 2) : List.zipWith sinceStep ss [-1, -1] = List.replicate 2 [] := by
  match ss, h with
  | [a, b], _ => rfl
theorem len_two {α : Type} {l : List α} (h : l.length = 2) : ∃ a b, l = [a, b] := by
  match l, h with
  | [a, b], _ => exact ⟨a, b, rfl⟩

set_option maxRecDepth 100000 in
set_option maxHeartbeats 8000000 in
theorem colsBreaks_walk (A0 : Option Addr) (c0 : Nat) (l0 : List (List Int)) (A1 : Option Addr) (c1 : Nat) (l1 : List (List Int)) (A2 : Option Addr) (c2 : Nat) (l2 : List (List Int)) (w : World) (hr0 : (Kd.slice 3 (Kd.int .i64)).C w A0 l0.length l0) (hc0 : l0.length ≤ c0)
    (hr1 : (Kd.slice 3 (Kd.int .i64)).C w A1 l1.length l1) (hc1 : l1.length ≤ c1) (hr2 : (Kd.slice 3 (Kd.int .i64)).C w A2 l2.length l2) (hc2 : l2.length ≤ c2) :
    Calls Try.prog 6 #[.slice A0 l0.length c0, .slice A1 l1.length c1, .slice A2 l2.length c2] w fun e w' => e = .returned (.bool true) ∧ Below w.heap.size w w' := by
  obtain ⟨ks, own, hks, hown⟩ := small17_spec l0
  have hr0' := Lib.hid hr0
  have hr1' := Lib.hid hr1
  have hr2' := Lib.hid hr2
  have hks' := Lib.hid hks
  have hown' := Lib.hid hown
  have hol : own.length ≤ 6 := hown.few
  have hm1 : l1.length ≤ 9223372036854775807 := hr1.2.1
  have hm2 : l2.length ≤ 9223372036854775807 := hr2.2.1
  clear hr0 hr1 hr2 hks hown
  go_enter Try.func6, Try.ntmps6
  go_wp2_with fail
  refine (PSmall.chequerref17_Small.calls ks A0 c0 l0 own _ hr0'.out hc0 hks'.out).mono ?_
  rintro e w1 ⟨v0, rfl, hS, hb1⟩
  obtain ⟨Ao, co, rfl, hco, hFo⟩ := S_open hS
  have hFo' := Lib.hid hFo
  have hb1' := Lib.hid hb1
  clear hS hFo hb1
  go_wp2_with fail
  refine (told_new _ co own 2 _ (Kd.F_now hFo'.out) hco hown'.out.cols (by decide)).mono ?_
  rintro e w2 ⟨bm, rfl, hT2, hb2⟩
  have hT2' := Lib.hid hT2
  have hb2' := Lib.hid hb2
  have hsz2 := hb2.size
  clear hT2 hb2
  go_wp2_with fail
  refine (told_new _ co own 2 _ (Kd.F_now (Kd.F_below hFo'.out hb2'.out)) hco hown'.out.cols (by decide)).mono ?_
  rintro e w3 ⟨bo, rfl, hT3, hb3⟩
  have hT3' := Lib.hid hT3
  have hT2b := Lib.hid (hT2'.out.below hb3)
  have hB13 := Lib.hid (hb2'.out.trans (hb3.mono hb2'.out.size))
  have hsz3 := hb3.size
  clear hT3 hb3 hT2' hb2'
  go_wp2_with fail
  go_loopw [12] (fun y wr => ∃ (i : Nat) (ss : List (List Int)), y = .int .i64 i ∧ i ≤ 6 ∧ ss.length = 2 ∧ Told (fun k => w1.heap.size ≤ k ∧ k < w2.heap.size) wr bm own ss i ∧ Told (fun k => w2.heap.size ≤ k ∧ k < w3.heap.size) wr bo own (List.replicate 2 []) 0 ∧ Below w1.heap.size w1 wr ∧ w3.heap.size ≤ wr.heap.size) (fun y _ => 6 - (intOf y).toNat)
  case atStart => exact ⟨0, List.replicate 2 [], rfl, Nat.zero_le _, rfl, hT2b.out, hT3'.out, hB13.out, Nat.le_refl _⟩
  case round =>
    obtain ⟨i, ss, rfl, hi, hss, hTa, hTb, hB, hsz⟩ := hrel
    have hTa' := Lib.hid hTa
    have hTb' := Lib.hid hTb
    have hss' := Lib.hid hss
    have hT5c := trivial
    clear hTa hTb hss hT3' hT2b hB13
    by_cases hk2 : i < l1.length
    · by_cases hk3 : i < 6
      · have hWr : Below w.heap.size w wr := hb1'.out.trans (hB.mono hb1'.out.size)
        obtain ⟨ba, oa, A4, c4, hA1, acell, hc4, hC4⟩ := rows_get (Kd.C_below hr1'.out hWr) hk2
        obtain ⟨kr, r, hkr, hrl, hrn⟩ := row17_spec (l1.getD i []) 2 (by decide)
        have hkr' := Lib.hid hkr
        have hrn' := Lib.hid hrn
        have hC4' := Lib.hid hC4
        have hrl' := Lib.hid hrl
        obtain ⟨ll, hll⟩ : ∃ ll, l1.getD i [] = ll := ⟨_, rfl⟩
        rw [hll] at acell hc4 hC4' hkr'
        clear hkr hrn hC4 hll
        subst hA1
        go_wp2_with fail
        refine (PRow.chequerref17_Row.calls kr A4 c4 ll 2 r _ hC4'.out hc4 hkr'.out).mono ?_
        rintro e w5 ⟨v5, rfl, hR5, hb5⟩
        obtain ⟨A5, c5, rfl, hc5, hF5, hblk5⟩ := R_new2 hR5
        have hF5' := Lib.hid hF5
        have hb5' := Lib.hid hb5
        have hsz5 := hb5.size
        rw [hrl] at hc5
        clear hR5 hF5 hb5 hblk5
        rw [hrl]
        clear hrl
        go_wp2_with fail
        rw [← hrl'.out]
        refine (told_row _ bm i own ss _ (hTa'.out.below hb5'.out) hown'.out.cols (fun q hq => by omega) A5 c5 r _ hF5'.out (fun q hq h => by omega) (by rw [hrl'.out]; exact hc5) (by rw [hss'.out]; decide) (by rw [hrl'.out, hss'.out]) hrn'.out (by omega)).mono ?_
        rintro e w6 ⟨go6, rfl, hF6, hT6, hm6⟩
        rw [hrl'.out]
        have hTb6 := Lib.hid ((hTb'.out.below hb5'.out).mods hm6 (fun q hq h => by omega))
        have hB6 : Below w1.heap.size w1 w6 := (hB.trans (hb5'.out.mono hB.size)).trans (hm6.below (by omega) (fun q hq h => by omega))
        have hsz6 := hm6.size
        have hT6' := Lib.hid hT6
        clear hF6 hT6 hm6
        go_wp2_with fail
        go_roundw
        case rel => exact ⟨i + 1, _, by go_num, by omega, by rw [List.length_zipWith, hss'.out, hrl'.out]; rfl, hT6'.out, hTb6.out, hB6, by omega⟩
        case measure => simp [intOf]; omega
      · obtain rfl : i = 6 := by omega
        go_wp2_with fail
        refine (told_row _ bm 6 own ss _ (hTa'.out.below ((Below.refl _ _).alloc (Nat.le_refl _) _)) hown'.out.cols (fun q hq => by simp; omega) (some ⟨wr.heap.size, 0, none⟩) 2 [-1, -1] (fun k => k = wr.heap.size)
          (F_lit (w' := w) [-1, -1] (World.alloc_heap_new wr _) (by decide) _ rfl) (fun q hq h => by omega) (by decide) (by rw [hss'.out]; decide) (by rw [hss'.out]; rfl) (by decide) (by omega)).mono ?_
        rintro e w5 ⟨go5, rfl, hF5, hT5, hm5⟩
        rw [zip_breaks hss'.out] at hF5 hT5
        have hout5 : (List.replicate 2 ([] : List Int)).map (endingOf own) = [[], []] := by
          have := hown'.out.cols.ending_nil
          simp [List.replicate, this]
        rw [hout5] at hF5
        have hT5' := Lib.hid hT5
        have hTb5 := Lib.hid ((hTb'.out.below ((Below.refl _ _).alloc (Nat.le_refl _) _)).mods hm5 (fun q hq h => by omega))
        have hB5 : Below w1.heap.size w1 w5 := (hB.alloc hB.size _).trans (hm5.below (by simp; have := hB.size; omega) (fun q hq h => by omega))
        have hsz5 : w3.heap.size ≤ w5.heap.size := by have := hm5.size; simp at this; omega
        obtain ⟨b8, o8, A8, c8, e8, a8, _, _⟩ := rows_get (Kd.F_now hF5) (i := 0) (by simp)
        injection e8 with e8; injection e8 with e8 e9; subst e8; subst e9
        obtain ⟨b9, o9, A9, c9, e8, a9, _, _⟩ := rows_get (Kd.F_now hF5) (i := 1) (by simp)
        injection e8 with e8; injection e8 with e8 e9; subst e8; subst e9
        simp only [List.getD_cons_zero, List.getD_cons_succ, Nat.zero_add, List.length_nil] at a8 a9
        clear hF5 hT5 hm5 hout5 hTa' hTb' hT5c
        go_wp2_with fail
        refine (hT5'.out.states_calls (by simp)).mono ?_
        rintro e w6 ⟨A6, c6, at6, rfl, hc6, hP6, hF6, hb6⟩
        have hat6 : at6 = [0, 0] := hP6.unique hown'.out.cols.good.wf (placesAt_blank hown'.out.cols.good.wf 2)
        subst hat6
        have hF6' := Lib.hid hF6
        have hb6' := Lib.hid hb6
        have a8b := (hb6.cell (World.block_lt_of_cell? w5 _ a8)).trans a8
        have a9b := (hb6.cell (World.block_lt_of_cell? w5 _ a9)).trans a9
        clear hP6 hF6 hb6 a8 a9
        go_wp2_with fail
        have hnew := World.alloc_heap_new w6 (.cells #[.int .i64 0, .int .i64 0] 3)
        refine (PSame.chequerref01_Same.calls 4 A6 c6 [0, 0] (some ⟨w6.heap.size, 0, none⟩) 2 [0, 0] true _ (Kd.F_now (Kd.F_alloc hF6'.out _)) hc6 (Kd.F_now (F_lit (w' := w) [0, 0] hnew (by decide) (fun _ => True) trivial)) (by decide) (by decide +kernel)).mono ?_
        rintro e w7 ⟨rfl, ⟨nd, rfl⟩⟩
        clear hnew
        have hB7 : Below w5.heap.size w5 ((w6.alloc (.cells #[.int .i64 0, .int .i64 0] 3)).drewN nd) := (hb6'.out.alloc hb6'.out.size _).trans ((drewN_below _ _).mono (by simp; have := hb6'.out.size; omega))
        have a8c := (cell_old a8b (.cells #[.int .i64 0, .int .i64 0] 3))
        have a9c := (cell_old a9b (.cells #[.int .i64 0, .int .i64 0] 3))
        have hT7 := Lib.hid (hT5'.out.below hB7)
        have hTb7 := Lib.hid (hTb5.out.below hB7)
        have hB17 : Below w1.heap.size w1 ((w6.alloc (.cells #[.int .i64 0, .int .i64 0] 3)).drewN nd) := hB5.trans (hB7.mono hB5.size)
        have hsz7 : w3.heap.size ≤ ((w6.alloc (.cells #[.int .i64 0, .int .i64 0] 3)).drewN nd).heap.size := by have := hB7.size; omega
        have a8d : ((w6.alloc (.cells #[.int .i64 0, .int .i64 0] 3)).drewN nd).cell? ⟨go5, 0, none⟩ = some (.slice A8 0 c8) := a8c
        have a9d : ((w6.alloc (.cells #[.int .i64 0, .int .i64 0] 3)).drewN nd).cell? ⟨go5, 1, none⟩ = some (.slice A9 0 c9) := a9c
        obtain ⟨w7, hw7⟩ : ∃ w7, (w6.alloc (.cells #[.int .i64 0, .int .i64 0] 3)).drewN nd = w7 := ⟨_, rfl⟩
        rw [hw7] at hT7 hTb7 hB17 hsz7 a8d a9d ⊢
        clear hw7 a8b a9b a8c a9c hT5' hTb5 hB5 hsz5 hB7
        go_wp2_with fail
        go_quiet (fail)
        have hT8 := Lib.hid (hT7.out.below (drewN_below w7 nq))
        have hTb8 := Lib.hid (hTb7.out.below (drewN_below w7 nq))
        have hB18 := Lib.hid (hB17.trans ((drewN_below w7 nq).mono hB17.size))
        have hsz8 : w3.heap.size ≤ (w7.drewN nq).heap.size := hsz7
        obtain ⟨w8, hw8⟩ : ∃ w8, w7.drewN nq = w8 := ⟨_, rfl⟩
        rw [hw8] at hT8 hTb8 hB18 hsz8 ⊢
        clear hw8 hT7 hTb7 hB17 hsz7 a8d a9d hB hsz
        go_wp2_with fail
        go_loopw [15] (fun y wr => ∃ (j : Nat) (ss : List (List Int)), y = .int .i64 j ∧ j ≤ 6 ∧ ss.length = 2 ∧ Told (fun k => w1.heap.size ≤ k ∧ k < w2.heap.size) wr bm own ss (6 + 1 + j) ∧ Told (fun k => w2.heap.size ≤ k ∧ k < w3.heap.size) wr bo own ss j ∧ Below w1.heap.size w1 wr ∧ w3.heap.size ≤ wr.heap.size) (fun y _ => 6 - (intOf y).toNat)
        case atStart => exact ⟨0, List.replicate 2 [], rfl, Nat.zero_le _, rfl, hT8.out, hTb8.out, hB18.out, hsz8⟩
        case round =>
          obtain ⟨j, ss2, rfl, hj, hss2, hTa, hTb, hB, hsz⟩ := hrel
          obtain ⟨s0, s1, rfl⟩ := len_two hss2
          have hTa' := Lib.hid hTa
          have hTb' := Lib.hid hTb
          clear hTa hTb hss2 hT8 hTb8 hB18 hsz8
          by_cases hq2 : j < l2.length
          · by_cases hq3 : j < 6
            · have hWr : Below w.heap.size w wr := hb1'.out.trans (hB.mono hb1'.out.size)
              obtain ⟨ba, oa, A4, c4, hA1, acell, hc4, hC4⟩ := rows_get (Kd.C_below hr2'.out hWr) hq2
              obtain ⟨kr, r, hkr, hrl, hrn⟩ := row17_spec (l2.getD j []) 2 (by decide)
              obtain ⟨x0, x1, rfl⟩ := len_two hrl
              have hkr' := Lib.hid hkr
              have hrn' := Lib.hid hrn
              have hC4' := Lib.hid hC4
              obtain ⟨ll, hll⟩ : ∃ ll, l2.getD j [] = ll := ⟨_, rfl⟩
              rw [hll] at acell hc4 hC4' hkr'
              clear hkr hrn hC4 hll hrl
              subst hA1
              go_wp2_with fail
              refine (PRow.chequerref17_Row.calls kr A4 c4 ll 2 [x0, x1] _ hC4'.out hc4 hkr'.out).mono ?_
              rintro e w5 ⟨v5, rfl, hR5, hb5⟩
              obtain ⟨A5, c5, rfl, hc5, hF5, hblk5⟩ := R_new2 hR5
              have hF5' := Lib.hid hF5
              have hb5' := Lib.hid hb5
              have hsz5 := hb5.size
              clear hR5 hF5 hb5 hblk5
              go_wp2_with fail
              refine (told_row _ bm (6 + 1 + j) own [s0, s1] _ (hTa'.out.below hb5'.out) hown'.out.cols (fun q hq => by omega) A5 c5 [x0, x1] _ hF5'.out (fun q hq h => by omega) hc5 (by simp) rfl hrn'.out (by omega)).mono ?_
              rintro e w6 ⟨go6, rfl, hF6, hT6, hm6⟩
              have hTb6 := Lib.hid ((hTb'.out.below hb5'.out).mods hm6 (fun q hq h => by omega))
              have hB6 : Below w1.heap.size w1 w6 := (hB.trans (hb5'.out.mono hB.size)).trans (hm6.below (by omega) (fun q hq h => by omega))
              have hsz6 := hm6.size
              have hF5b := Lib.hid (Kd.F_step hF5'.out (fun q hq hlt => hm6.block q hlt (fun h => by omega)))
              have hF6' := Lib.hid hF6
              have hT6' := Lib.hid hT6
              clear hF6 hT6 hm6
              go_wp2_with fail
              refine (told_row _ bo j own [s0, s1] _ hTb6.out hown'.out.cols (fun q hq => by omega) A5 c5 [x0, x1] _ hF5b.out (fun q hq h => by omega) hc5 (by simp) rfl hrn'.out (by omega)).mono ?_
              rintro e w7 ⟨go7, rfl, hF7, hT7, hm7⟩
              have hT6b := Lib.hid (hT6'.out.mods hm7 (fun q hq h => by omega))
              have hT7' := Lib.hid hT7
              have hB7 : Below w1.heap.size w1 w7 := hB6.trans (hm7.below (by omega) (fun q hq h => by omega))
              have hsz7 := hm7.size
              have hF6b := Kd.F_step hF6'.out (fun q hq hlt => hm7.block q hlt (fun h => by omega))
              obtain ⟨L0, hL0⟩ : ∃ L, endingOf own (sinceStep s0 x0) = L := ⟨_, rfl⟩
              obtain ⟨L1, hL1⟩ : ∃ L, endingOf own (sinceStep s1 x1) = L := ⟨_, rfl⟩
              have hzz : (List.zipWith sinceStep [s0, s1] [x0, x1]).map (endingOf own) = [L0, L1] := by rw [← hL0, ← hL1]; rfl
              have hl0 : L0.length ≤ 1000000 := by rw [← hL0]; have := endingOf_len own (sinceStep s0 x0); omega
              have hl1 : L1.length ≤ 1000000 := by rw [← hL1]; have := endingOf_len own (sinceStep s1 x1); omega
              rw [hzz] at hF6b hF7
              obtain ⟨kS0, hkS0⟩ := same_refl L0 hl0
              obtain ⟨kS1, hkS1⟩ := same_refl L1 hl1
              have hat : ∃ at_, PlacesAt (treeOf (own.map wordOf)) (List.zipWith sinceStep [s0, s1] [x0, x1]) at_ := by obtain ⟨at_, _, h2⟩ := hT7'.out; exact ⟨at_, h2⟩
              obtain ⟨at_, hat⟩ := hat
              have hatl : at_.length ≤ 1000000 := by rw [hat.1]; simp
              obtain ⟨kS2, hkS2⟩ := same_refl at_ hatl
              have hat' := Lib.hid hat
              obtain ⟨p1, p2, Aa0, ca0, e8, a0, hca0, hCa0⟩ := rows_get (Kd.F_now hF6b) (i := 0) (by simp)
              injection e8 with e8; injection e8 with e8 e9; subst e8; subst e9
              obtain ⟨p1, p2, Aa1, ca1, e8, a1, hca1, hCa1⟩ := rows_get (Kd.F_now hF6b) (i := 1) (by simp)
              injection e8 with e8; injection e8 with e8 e9; subst e8; subst e9
              obtain ⟨p1, p2, Ab0, cb0, e8, b0, hcb0, hCb0⟩ := rows_get (Kd.F_now hF7) (i := 0) (by simp)
              injection e8 with e8; injection e8 with e8 e9; subst e8; subst e9
              obtain ⟨p1, p2, Ab1, cb1, e8, b1, hcb1, hCb1⟩ := rows_get (Kd.F_now hF7) (i := 1) (by simp)
              injection e8 with e8; injection e8 with e8 e9; subst e8; subst e9
              simp only [List.getD_cons_zero, List.getD_cons_succ, Nat.zero_add] at a0 a1 b0 b1 hca0 hca1 hcb0 hcb1 hCa0 hCa1 hCb0 hCb1
              have hkeep := Lib.hid (fun (W : World) (hb : Below w7.heap.size w7 W) => (show W.cell? ⟨go6, 0, none⟩ = some (.slice Aa0 L0.length ca0) ∧ W.cell? ⟨go6, 1, none⟩ = some (.slice Aa1 L1.length ca1) ∧ W.cell? ⟨go7, 0, none⟩ = some (.slice Ab0 L0.length cb0) ∧ W.cell? ⟨go7, 1, none⟩ = some (.slice Ab1 L1.length cb1) from
                ⟨(hb.cell (World.block_lt_of_cell? w7 _ a0)).trans a0, (hb.cell (World.block_lt_of_cell? w7 _ a1)).trans a1, (hb.cell (World.block_lt_of_cell? w7 _ b0)).trans b0, (hb.cell (World.block_lt_of_cell? w7 _ b1)).trans b1⟩))
              have hCa0' := Lib.hid hCa0
              have hCa1' := Lib.hid hCa1
              have hCb0' := Lib.hid hCb0
              have hCb1' := Lib.hid hCb1
              have hkS0' := Lib.hid hkS0
              have hkS1' := Lib.hid hkS1
              have hkS2' := Lib.hid hkS2
              clear hF7 hT7 hm7 hF6b hL0 hL1 hzz hCa0 hCa1 hCb0 hCb1 hkS0 hkS1 hkS2 hat
              go_wp2_with fail
              refine start_ (n := 26) (S := fun w' => w'.cell? ⟨go6, 0, none⟩ = some (.slice Aa0 L0.length ca0) ∧ w'.cell? ⟨go6, 1, none⟩ = some (.slice Aa1 L1.length ca1) ∧ w'.cell? ⟨go7, 0, none⟩ = some (.slice Ab0 L0.length cb0) ∧ w'.cell? ⟨go7, 1, none⟩ = some (.slice Ab1 L1.length cb1)) (ds := []) #[false, false, false, false, false, false, false, false, false, false, false, false, false, false, false, false, false, false, false, false, false, false, false, false, false, false] (by kernel_rfl) rfl rfl (hkeep.out _ ((Below.refl _ _).drew)) (fun hHeld => ?_); refine with_tabW brk23_tab brk23_bits (fun HT_ HW_ => ?_)
              refine pure_ (i := 0) (N := some 129) (v := ?_) (a' := ?_) #[true, false, false, false, false, false, false, false, false, false, false, false, false, false, false, false, false, false, false, false, false, false, false, false, false, false] rfl rfl (any_of HT_.out (by kernel_rfl)) (fun _ _ _ h => h) (Or.inl ⟨by rfl, ?_⟩) ?_ ?_
              rotate_left
              · intro w'
                go_simp
                with_reducible rfl
              rotate_left
              · simp only [Act.put, List.setIfInBounds_toArray, List.set_cons_zero, List.set_cons_succ, i64_w, i32_w]
                rfl
              refine pure_ (i := 1) (N := some 130) (v := ?_) (a' := ?_) #[true, true, false, false, false, false, false, false, false, false, false, false, false, false, false, false, false, false, false, false, false, false, false, false, false, false] rfl rfl (any_of HT_.out (by kernel_rfl)) (fun _ _ _ h => h) (Or.inl ⟨by rfl, ?_⟩) ?_ ?_
              rotate_left
              · intro w'
                go_simp
                with_reducible rfl
              rotate_left
              · simp only [Act.put, List.setIfInBounds_toArray, List.set_cons_zero, List.set_cons_succ, i64_w, i32_w]
                rfl
              refine pure_ (i := 3) (N := some 132) (v := ?_) (a' := ?_) #[true, true, false, true, false, false, false, false, false, false, false, false, false, false, false, false, false, false, false, false, false, false, false, false, false, false] rfl rfl (any_of HT_.out (by kernel_rfl)) (fun _ _ _ h => h) (Or.inl ⟨by rfl, ?_⟩) ?_ ?_
              rotate_left
              · intro w'
                go_simp
                with_reducible rfl
              rotate_left
              · simp only [Act.put, List.setIfInBounds_toArray, List.set_cons_zero, List.set_cons_succ, i64_w, i32_w]
                rfl
              refine pure_ (i := 4) (N := some 133) (v := ?_) (a' := ?_) #[true, true, false, true, true, false, false, false, false, false, false, false, false, false, false, false, false, false, false, false, false, false, false, false, false, false] rfl rfl (any_of HT_.out (by kernel_rfl)) (fun _ _ _ h => h) (Or.inl ⟨by rfl, ?_⟩) ?_ ?_
              rotate_left
              · intro w'
                go_simp
                with_reducible rfl
              rotate_left
              · simp only [Act.put, List.setIfInBounds_toArray, List.set_cons_zero, List.set_cons_succ, i64_w, i32_w]
                rfl
              refine take_ (i := 2) (N := some 131) (v := ?_) (a' := ?_) #[true, true, true, true, true, false, false, false, false, false, false, false, false, false, false, false, false, false, false, false, false, false, false, false, false, false] rfl rfl (take_ofW HT_.out HW_.out (by kernel_rfl)) (fun _ _ _ h => h) (Or.inl ⟨by rfl, ?_⟩) hHeld ?_ ?_
              rotate_left
              · rintro w' ⟨s0, s1, s2, s3⟩
                go_simp
                with_reducible rfl
              rotate_left
              · simp only [Act.put, List.setIfInBounds_toArray, List.set_cons_zero, List.set_cons_succ, i64_w, i32_w]
                rfl
              refine take_ (i := 5) (N := some 134) (v := ?_) (a' := ?_) #[true, true, true, true, true, true, false, false, false, false, false, false, false, false, false, false, false, false, false, false, false, false, false, false, false, false] rfl rfl (take_ofW HT_.out HW_.out (by kernel_rfl)) (fun _ _ _ h => h) (Or.inl ⟨by rfl, ?_⟩) hHeld ?_ ?_
              rotate_left
              · rintro w' ⟨s0, s1, s2, s3⟩
                go_simp
                with_reducible rfl
              rotate_left
              · simp only [Act.put, List.setIfInBounds_toArray, List.set_cons_zero, List.set_cons_succ, i64_w, i32_w]
                rfl
              refine one_ (i := 6) (N := some 135) #[true, true, true, true, true, true, true, false, false, false, false, false, false, false, false, false, false, false, false, false, false, false, false, false, false, false] rfl rfl (one_of HT_.out (by kernel_rfl)) (by decide) (fun K hK => ?_)
              have k1 : Below w7.heap.size w7 w7.drew := (Below.refl _ _).drew
              refine goes_ Try.func15 (by kernel_rfl) rfl #[.slice Aa0 L0.length ca0, .slice Ab0 L0.length cb0] (by rfl) rfl rfl (by (try simp only [List.map_toArray, List.map_cons, List.map_nil]); first | done | rfl) ?_
              refine (PSame.chequerref01_Same.calls kS0 Aa0 ca0 L0 Ab0 cb0 L0 true _ (Kd.C_below hCa0'.out k1) hca0 (Kd.C_below hCb0'.out k1) hcb0 hkS0'.out).mono ?_
              rintro e wx ⟨rfl, hdx⟩
              have kx : Below w7.heap.size w7 wx := k1.trans hdx.below
              refine ⟨_, rfl, ?_⟩
              refine hK.out _ _ (hkeep.out _ kx) (fun hHeld => ?_)
              have kx' := Lib.hid kx
              clear hK K k1 hdx kx
              refine norm_ (a' := ?_) ?_ ?_
              rotate_left
              · show Act.put _ (some 135) _ = _
                simp only [Act.put, List.setIfInBounds_toArray, List.set_cons_zero, List.set_cons_succ, i64_w, i32_w]
                rfl
              refine pure_ (i := 7) (N := some 136) (v := ?_) (a' := ?_) #[true, true, true, true, true, true, true, true, false, false, false, false, false, false, false, false, false, false, false, false, false, false, false, false, false, false] rfl rfl (any_of HT_.out (by kernel_rfl)) (fun _ _ _ h => h) (Or.inl ⟨by rfl, ?_⟩) ?_ ?_
              rotate_left
              · intro w'
                go_simp
                with_reducible rfl
              rotate_left
              · simp only [Act.put, List.setIfInBounds_toArray, List.set_cons_zero, List.set_cons_succ, i64_w, i32_w]
                rfl
              refine pure_ (i := 8) (N := some 137) (v := ?_) (a' := ?_) #[true, true, true, true, true, true, true, true, true, false, false, false, false, false, false, false, false, false, false, false, false, false, false, false, false, false] rfl rfl (any_of HT_.out (by kernel_rfl)) (fun _ _ _ h => h) (Or.inl ⟨by rfl, ?_⟩) ?_ ?_
              rotate_left
              · intro w'
                go_simp
                with_reducible rfl
              rotate_left
              · simp only [Act.put, List.setIfInBounds_toArray, List.set_cons_zero, List.set_cons_succ, i64_w, i32_w]
                rfl
              refine pure_ (i := 9) (N := some 138) (v := ?_) (a' := ?_) #[true, true, true, true, true, true, true, true, true, true, false, false, false, false, false, false, false, false, false, false, false, false, false, false, false, false] rfl rfl (any_of HT_.out (by kernel_rfl)) (fun _ _ _ h => h) (Or.inl ⟨by rfl, ?_⟩) ?_ ?_
              rotate_left
              · intro w'
                go_simp
                with_reducible rfl
              rotate_left
              · simp only [Act.put, List.setIfInBounds_toArray, List.set_cons_zero, List.set_cons_succ, i64_w, i32_w]
                rfl
              refine pure_ (i := 10) (N := some 139) (v := ?_) (a' := ?_) #[true, true, true, true, true, true, true, true, true, true, true, false, false, false, false, false, false, false, false, false, false, false, false, false, false, false] rfl rfl (any_of HT_.out (by kernel_rfl)) (fun _ _ _ h => h) (Or.inl ⟨by rfl, ?_⟩) ?_ ?_
              rotate_left
              · intro w'
                go_simp
                with_reducible rfl
              rotate_left
              · simp only [Act.put, List.setIfInBounds_toArray, List.set_cons_zero, List.set_cons_succ, i64_w, i32_w]
                rfl
              refine pure_ (i := 12) (N := some 141) (v := ?_) (a' := ?_) #[true, true, true, true, true, true, true, true, true, true, true, false, true, false, false, false, false, false, false, false, false, false, false, false, false, false] rfl rfl (any_of HT_.out (by kernel_rfl)) (fun _ _ _ h => h) (Or.inl ⟨by rfl, ?_⟩) ?_ ?_
              rotate_left
              · intro w'
                go_simp
                with_reducible rfl
              rotate_left
              · simp only [Act.put, List.setIfInBounds_toArray, List.set_cons_zero, List.set_cons_succ, i64_w, i32_w]
                rfl
              refine pure_ (i := 13) (N := some 142) (v := ?_) (a' := ?_) #[true, true, true, true, true, true, true, true, true, true, true, false, true, true, false, false, false, false, false, false, false, false, false, false, false, false] rfl rfl (any_of HT_.out (by kernel_rfl)) (fun _ _ _ h => h) (Or.inl ⟨by rfl, ?_⟩) ?_ ?_
              rotate_left
              · intro w'
                go_simp
                with_reducible rfl
              rotate_left
              · simp only [Act.put, List.setIfInBounds_toArray, List.set_cons_zero, List.set_cons_succ, i64_w, i32_w]
                rfl
              refine take_ (i := 11) (N := some 140) (v := ?_) (a' := ?_) #[true, true, true, true, true, true, true, true, true, true, true, true, true, true, false, false, false, false, false, false, false, false, false, false, false, false] rfl rfl (take_ofW HT_.out HW_.out (by kernel_rfl)) (fun _ _ _ h => h) (Or.inl ⟨by rfl, ?_⟩) hHeld ?_ ?_
              rotate_left
              · rintro w' ⟨s0, s1, s2, s3⟩
                go_simp
                with_reducible rfl
              rotate_left
              · simp only [Act.put, List.setIfInBounds_toArray, List.set_cons_zero, List.set_cons_succ, i64_w, i32_w]
                rfl
              refine take_ (i := 14) (N := some 143) (v := ?_) (a' := ?_) #[true, true, true, true, true, true, true, true, true, true, true, true, true, true, true, false, false, false, false, false, false, false, false, false, false, false] rfl rfl (take_ofW HT_.out HW_.out (by kernel_rfl)) (fun _ _ _ h => h) (Or.inl ⟨by rfl, ?_⟩) hHeld ?_ ?_
              rotate_left
              · rintro w' ⟨s0, s1, s2, s3⟩
                go_simp
                with_reducible rfl
              rotate_left
              · simp only [Act.put, List.setIfInBounds_toArray, List.set_cons_zero, List.set_cons_succ, i64_w, i32_w]
                rfl
              refine one_ (i := 15) (N := some 144) #[true, true, true, true, true, true, true, true, true, true, true, true, true, true, true, true, false, false, false, false, false, false, false, false, false, false] rfl rfl (one_of HT_.out (by kernel_rfl)) (by decide) (fun K hK => ?_)
              refine goes_ Try.func15 (by kernel_rfl) rfl #[.slice Aa1 L1.length ca1, .slice Ab1 L1.length cb1] (by rfl) rfl rfl (by (try simp only [List.map_toArray, List.map_cons, List.map_nil]); first | done | rfl) ?_
              refine (PSame.chequerref01_Same.calls kS1 Aa1 ca1 L1 Ab1 cb1 L1 true _ (Kd.C_below hCa1'.out kx'.out) hca1 (Kd.C_below hCb1'.out kx'.out) hcb1 hkS1'.out).mono ?_
              rintro e wy ⟨rfl, hdy⟩
              have ky : Below w7.heap.size w7 wy := kx'.out.trans (hdy.below.mono kx'.out.size)
              refine ⟨_, rfl, ?_⟩
              refine hK.out _ _ (hkeep.out _ ky) (fun hHeld => ?_)
              have ky' := Lib.hid ky
              clear hK K hdy ky
              refine norm_ (a' := ?_) ?_ ?_
              rotate_left
              · show Act.put _ (some 144) _ = _
                simp only [Act.put, List.setIfInBounds_toArray, List.set_cons_zero, List.set_cons_succ, i64_w, i32_w]
                rfl
              refine pure_ (i := 16) (N := some 145) (v := ?_) (a' := ?_) #[true, true, true, true, true, true, true, true, true, true, true, true, true, true, true, true, true, false, false, false, false, false, false, false, false, false] rfl rfl (any_of HT_.out (by kernel_rfl)) (fun _ _ _ h => h) (Or.inl ⟨by rfl, ?_⟩) ?_ ?_
              rotate_left
              · intro w'
                go_simp
                with_reducible rfl
              rotate_left
              · simp only [Act.put, List.setIfInBounds_toArray, List.set_cons_zero, List.set_cons_succ, i64_w, i32_w]
                rfl
              refine pure_ (i := 17) (N := some 146) (v := ?_) (a' := ?_) #[true, true, true, true, true, true, true, true, true, true, true, true, true, true, true, true, true, true, false, false, false, false, false, false, false, false] rfl rfl (any_of HT_.out (by kernel_rfl)) (fun _ _ _ h => h) (Or.inl ⟨by rfl, ?_⟩) ?_ ?_
              rotate_left
              · intro w'
                go_simp
                with_reducible rfl
              rotate_left
              · simp only [Act.put, List.setIfInBounds_toArray, List.set_cons_zero, List.set_cons_succ, i64_w, i32_w]
                rfl
              refine pure_ (i := 18) (N := some 147) (v := ?_) (a' := ?_) #[true, true, true, true, true, true, true, true, true, true, true, true, true, true, true, true, true, true, true, false, false, false, false, false, false, false] rfl rfl (any_of HT_.out (by kernel_rfl)) (fun _ _ _ h => h) (Or.inl ⟨by rfl, ?_⟩) ?_ ?_
              rotate_left
              · intro w'
                go_simp
                with_reducible rfl
              rotate_left
              · simp only [Act.put, List.setIfInBounds_toArray, List.set_cons_zero, List.set_cons_succ, i64_w, i32_w]
                rfl
              refine pure_ (i := 19) (N := some 148) (v := ?_) (a' := ?_) #[true, true, true, true, true, true, true, true, true, true, true, true, true, true, true, true, true, true, true, true, false, false, false, false, false, false] rfl rfl (any_of HT_.out (by kernel_rfl)) (fun _ _ _ h => h) (Or.inl ⟨by rfl, ?_⟩) ?_ ?_
              rotate_left
              · intro w'
                go_simp
                with_reducible rfl
              rotate_left
              · simp only [Act.put, List.setIfInBounds_toArray, List.set_cons_zero, List.set_cons_succ, i64_w, i32_w]
                rfl
              refine pure_ (i := 21) (N := some 150) (v := ?_) (a' := ?_) #[true, true, true, true, true, true, true, true, true, true, true, true, true, true, true, true, true, true, true, true, false, true, false, false, false, false] rfl rfl (any_of HT_.out (by kernel_rfl)) (fun _ _ _ h => h) (Or.inl ⟨by rfl, ?_⟩) ?_ ?_
              rotate_left
              · intro w'
                go_simp
                with_reducible rfl
              rotate_left
              · simp only [Act.put, List.setIfInBounds_toArray, List.set_cons_zero, List.set_cons_succ, i64_w, i32_w]
                rfl
              refine one_ (i := 20) (N := some 149) #[true, true, true, true, true, true, true, true, true, true, true, true, true, true, true, true, true, true, true, true, true, true, false, false, false, false] rfl rfl (one_of HT_.out (by kernel_rfl)) (by decide) (fun K hK => ?_)
              refine goes_ Try.func27 (by kernel_rfl) rfl #[.pointer (some ⟨bm, 0, none⟩)] (by rfl) rfl rfl (by (try simp only [List.map_toArray, List.map_cons, List.map_nil]); first | done | rfl) ?_
              refine ((hT6b.out.below ky'.out).states_calls (by simp)).mono ?_
              rintro e wz ⟨Az, cz, atz, rfl, hcz, hPz, hFz, hbz⟩
              obtain rfl : atz = at_ := hPz.unique hown'.out.cols.good.wf hat'.out
              have kz : Below w7.heap.size w7 wz := ky'.out.trans (hbz.mono ky'.out.size)
              refine ⟨_, rfl, ?_⟩
              refine hK.out _ _ (hkeep.out _ kz) (fun hHeld => ?_)
              have kz' := Lib.hid kz
              have hFz' := Lib.hid hFz
              clear hK K hbz kz hPz hFz
              refine norm_ (a' := ?_) ?_ ?_
              rotate_left
              · show Act.put _ (some 149) _ = _
                simp only [Act.put, List.setIfInBounds_toArray, List.set_cons_zero, List.set_cons_succ, i64_w, i32_w]
                rfl
              refine one_ (i := 22) (N := some 151) #[true, true, true, true, true, true, true, true, true, true, true, true, true, true, true, true, true, true, true, true, true, true, true, false, false, false] rfl rfl (one_of HT_.out (by kernel_rfl)) (by decide) (fun K hK => ?_)
              refine goes_ Try.func27 (by kernel_rfl) rfl #[.pointer (some ⟨bo, 0, none⟩)] (by rfl) rfl rfl (by (try simp only [List.map_toArray, List.map_cons, List.map_nil]); first | done | rfl) ?_
              refine ((hT7'.out.below kz'.out).states_calls (by simp)).mono ?_
              rintro e wu ⟨Au, cu, atu, rfl, hcu, hPu, hFu, hbu⟩
              obtain rfl : atu = atz := hPu.unique hown'.out.cols.good.wf hat'.out
              have ku : Below w7.heap.size w7 wu := kz'.out.trans (hbu.mono kz'.out.size)
              have hFzu := Lib.hid (Kd.F_below hFz'.out hbu)
              refine ⟨_, rfl, ?_⟩
              refine hK.out _ _ (hkeep.out _ ku) (fun hHeld => ?_)
              have ku' := Lib.hid ku
              have hFu' := Lib.hid hFu
              clear hK K hbu ku hPu hFu
              refine norm_ (a' := ?_) ?_ ?_
              rotate_left
              · show Act.put _ (some 151) _ = _
                simp only [Act.put, List.setIfInBounds_toArray, List.set_cons_zero, List.set_cons_succ, i64_w, i32_w]
                rfl
              refine one_ (i := 23) (N := some 152) #[true, true, true, true, true, true, true, true, true, true, true, true, true, true, true, true, true, true, true, true, true, true, true, true, false, false] rfl rfl (one_of HT_.out (by kernel_rfl)) (by decide) (fun K hK => ?_)
              refine goes_ Try.func15 (by kernel_rfl) rfl #[.slice Az atu.length cz, .slice Au atu.length cu] (by rfl) rfl rfl (by (try simp only [List.map_toArray, List.map_cons, List.map_nil]); first | done | rfl) ?_
              refine (PSame.chequerref01_Same.calls kS2 Az cz atu Au cu atu true _ (Kd.F_now hFzu.out) hcz (Kd.F_now hFu'.out) hcu hkS2'.out).mono ?_
              rintro e wv ⟨rfl, hdv⟩
              have kv : Below w7.heap.size w7 wv := ku'.out.trans (hdv.below.mono ku'.out.size)
              refine ⟨_, rfl, ?_⟩
              refine hK.out _ _ (hkeep.out _ kv) (fun hHeld => ?_)
              have kv' := Lib.hid kv
              clear hK K hdv kv
              refine norm_ (a' := ?_) ?_ ?_
              rotate_left
              · show Act.put _ (some 152) _ = _
                simp only [Act.put, List.setIfInBounds_toArray, List.set_cons_zero, List.set_cons_succ, i64_w, i32_w]
                rfl
              refine pure_ (i := 24) (N := some 153) (v := ?_) (a' := ?_) #[true, true, true, true, true, true, true, true, true, true, true, true, true, true, true, true, true, true, true, true, true, true, true, true, true, false] rfl rfl (any_of HT_.out (by kernel_rfl)) (fun _ _ _ h => h) (Or.inl ⟨by rfl, ?_⟩) ?_ ?_
              rotate_left
              · intro w'
                go_simp
                with_reducible rfl
              rotate_left
              · simp only [Act.put, List.setIfInBounds_toArray, List.set_cons_zero, List.set_cons_succ, i64_w, i32_w]
                rfl
              refine pure_ (i := 25) (N := some 154) (v := ?_) (a' := ?_) #[true, true, true, true, true, true, true, true, true, true, true, true, true, true, true, true, true, true, true, true, true, true, true, true, true, true] rfl rfl (any_of HT_.out (by kernel_rfl)) (fun _ _ _ h => h) (Or.inl ⟨by rfl, ?_⟩) ?_ ?_
              rotate_left
              · intro w'
                go_simp
                with_reducible rfl
              rotate_left
              · simp only [Act.put, List.setIfInBounds_toArray, List.set_cons_zero, List.set_cons_succ, i64_w, i32_w]
                rfl
              refine done_ (done_of HT_.out (by kernel_rfl)) ?_
              have hszv := kv'.out.size
              clear hHeld
              go_wp2_with fail
              go_roundw
              case rel => exact ⟨j + 1, _, by go_num, by omega, rfl, hT6b.out.below kv'.out, hT7'.out.below kv'.out, hB7.trans (kv'.out.mono hB7.size), by omega⟩
              case measure => simp [intOf]; omega
            · obtain rfl : j = 6 := by omega
              go_wp2_with fail
              refine (lives17_calls _).mono ?_
              rintro e w9 ⟨rfl, hb9⟩
              have hb9' := Lib.hid hb9
              clear hb9
              go_wp2_with fail
              go_ret
              exact ⟨rfl, (hb1'.out.trans (hB.mono hb1'.out.size)).trans (hb9'.out.mono (Nat.le_trans hb1'.out.size hB.size))⟩
          · skip
            go_wp2_with fail
            refine (lives17_calls _).mono ?_
            rintro e w9 ⟨rfl, hb9⟩
            have hb9' := Lib.hid hb9
            clear hb9
            go_wp2_with fail
            go_ret
            exact ⟨rfl, (hb1'.out.trans (hB.mono hb1'.out.size)).trans (hb9'.out.mono (Nat.le_trans hb1'.out.size hB.size))⟩
    · skip
      go_wp2_with fail
      refine (told_row _ bm i own ss _ (hTa'.out.below ((Below.refl _ _).alloc (Nat.le_refl _) _)) hown'.out.cols (fun q hq => by simp; omega) (some ⟨wr.heap.size, 0, none⟩) 2 [-1, -1] (fun k => k = wr.heap.size)
        (F_lit (w' := w) [-1, -1] (World.alloc_heap_new wr _) (by decide) _ rfl) (fun q hq h => by omega) (by decide) (by rw [hss'.out]; decide) (by rw [hss'.out]; rfl) (by decide) (by omega)).mono ?_
      rintro e w5 ⟨go5, rfl, hF5, hT5, hm5⟩
      rw [zip_breaks hss'.out] at hF5 hT5
      have hout5 : (List.replicate 2 ([] : List Int)).map (endingOf own) = [[], []] := by
        have := hown'.out.cols.ending_nil
        simp [List.replicate, this]
      rw [hout5] at hF5
      have hT5' := Lib.hid hT5
      have hTb5 := Lib.hid ((hTb'.out.below ((Below.refl _ _).alloc (Nat.le_refl _) _)).mods hm5 (fun q hq h => by omega))
      have hB5 : Below w1.heap.size w1 w5 := (hB.alloc hB.size _).trans (hm5.below (by simp; have := hB.size; omega) (fun q hq h => by omega))
      have hsz5 : w3.heap.size ≤ w5.heap.size := by have := hm5.size; simp at this; omega
      obtain ⟨b8, o8, A8, c8, e8, a8, _, _⟩ := rows_get (Kd.F_now hF5) (i := 0) (by simp)
      injection e8 with e8; injection e8 with e8 e9; subst e8; subst e9
      obtain ⟨b9, o9, A9, c9, e8, a9, _, _⟩ := rows_get (Kd.F_now hF5) (i := 1) (by simp)
      injection e8 with e8; injection e8 with e8 e9; subst e8; subst e9
      simp only [List.getD_cons_zero, List.getD_cons_succ, Nat.zero_add, List.length_nil] at a8 a9
      clear hF5 hT5 hm5 hout5 hTa' hTb' hT5c
      go_wp2_with fail
      refine (hT5'.out.states_calls (by simp)).mono ?_
      rintro e w6 ⟨A6, c6, at6, rfl, hc6, hP6, hF6, hb6⟩
      have hat6 : at6 = [0, 0] := hP6.unique hown'.out.cols.good.wf (placesAt_blank hown'.out.cols.good.wf 2)
      subst hat6
      have hF6' := Lib.hid hF6
      have hb6' := Lib.hid hb6
      have a8b := (hb6.cell (World.block_lt_of_cell? w5 _ a8)).trans a8
      have a9b := (hb6.cell (World.block_lt_of_cell? w5 _ a9)).trans a9
      clear hP6 hF6 hb6 a8 a9
      go_wp2_with fail
      have hnew := World.alloc_heap_new w6 (.cells #[.int .i64 0, .int .i64 0] 3)
      refine (PSame.chequerref01_Same.calls 4 A6 c6 [0, 0] (some ⟨w6.heap.size, 0, none⟩) 2 [0, 0] true _ (Kd.F_now (Kd.F_alloc hF6'.out _)) hc6 (Kd.F_now (F_lit (w' := w) [0, 0] hnew (by decide) (fun _ => True) trivial)) (by decide) (by decide +kernel)).mono ?_
      rintro e w7 ⟨rfl, ⟨nd, rfl⟩⟩
      clear hnew
      have hB7 : Below w5.heap.size w5 ((w6.alloc (.cells #[.int .i64 0, .int .i64 0] 3)).drewN nd) := (hb6'.out.alloc hb6'.out.size _).trans ((drewN_below _ _).mono (by simp; have := hb6'.out.size; omega))
      have a8c := (cell_old a8b (.cells #[.int .i64 0, .int .i64 0] 3))
      have a9c := (cell_old a9b (.cells #[.int .i64 0, .int .i64 0] 3))
      have hT7 := Lib.hid (hT5'.out.below hB7)
      have hTb7 := Lib.hid (hTb5.out.below hB7)
      have hB17 : Below w1.heap.size w1 ((w6.alloc (.cells #[.int .i64 0, .int .i64 0] 3)).drewN nd) := hB5.trans (hB7.mono hB5.size)
      have hsz7 : w3.heap.size ≤ ((w6.alloc (.cells #[.int .i64 0, .int .i64 0] 3)).drewN nd).heap.size := by have := hB7.size; omega
      have a8d : ((w6.alloc (.cells #[.int .i64 0, .int .i64 0] 3)).drewN nd).cell? ⟨go5, 0, none⟩ = some (.slice A8 0 c8) := a8c
      have a9d : ((w6.alloc (.cells #[.int .i64 0, .int .i64 0] 3)).drewN nd).cell? ⟨go5, 1, none⟩ = some (.slice A9 0 c9) := a9c
      obtain ⟨w7, hw7⟩ : ∃ w7, (w6.alloc (.cells #[.int .i64 0, .int .i64 0] 3)).drewN nd = w7 := ⟨_, rfl⟩
      rw [hw7] at hT7 hTb7 hB17 hsz7 a8d a9d ⊢
      clear hw7 a8b a9b a8c a9c hT5' hTb5 hB5 hsz5 hB7
      go_wp2_with fail
      go_quiet (fail)
      have hT8 := Lib.hid (hT7.out.below (drewN_below w7 nq))
      have hTb8 := Lib.hid (hTb7.out.below (drewN_below w7 nq))
      have hB18 := Lib.hid (hB17.trans ((drewN_below w7 nq).mono hB17.size))
      have hsz8 : w3.heap.size ≤ (w7.drewN nq).heap.size := hsz7
      obtain ⟨w8, hw8⟩ : ∃ w8, w7.drewN nq = w8 := ⟨_, rfl⟩
      rw [hw8] at hT8 hTb8 hB18 hsz8 ⊢
      clear hw8 hT7 hTb7 hB17 hsz7 a8d a9d hB hsz
      go_wp2_with fail
      go_loopw [15] (fun y wr => ∃ (j : Nat) (ss : List (List Int)), y = .int .i64 j ∧ j ≤ 6 ∧ ss.length = 2 ∧ Told (fun k => w1.heap.size ≤ k ∧ k < w2.heap.size) wr bm own ss (i + 1 + j) ∧ Told (fun k => w2.heap.size ≤ k ∧ k < w3.heap.size) wr bo own ss j ∧ Below w1.heap.size w1 wr ∧ w3.heap.size ≤ wr.heap.size) (fun y _ => 6 - (intOf y).toNat)
      case atStart => exact ⟨0, List.replicate 2 [], rfl, Nat.zero_le _, rfl, hT8.out, hTb8.out, hB18.out, hsz8⟩
      case round =>
        obtain ⟨j, ss2, rfl, hj, hss2, hTa, hTb, hB, hsz⟩ := hrel
        obtain ⟨s0, s1, rfl⟩ := len_two hss2
        have hTa' := Lib.hid hTa
        have hTb' := Lib.hid hTb
        clear hTa hTb hss2 hT8 hTb8 hB18 hsz8
        by_cases hq2 : j < l2.length
        · by_cases hq3 : j < 6
          · have hWr : Below w.heap.size w wr := hb1'.out.trans (hB.mono hb1'.out.size)
            obtain ⟨ba, oa, A4, c4, hA1, acell, hc4, hC4⟩ := rows_get (Kd.C_below hr2'.out hWr) hq2
            obtain ⟨kr, r, hkr, hrl, hrn⟩ := row17_spec (l2.getD j []) 2 (by decide)
            obtain ⟨x0, x1, rfl⟩ := len_two hrl
            have hkr' := Lib.hid hkr
            have hrn' := Lib.hid hrn
            have hC4' := Lib.hid hC4
            obtain ⟨ll, hll⟩ : ∃ ll, l2.getD j [] = ll := ⟨_, rfl⟩
            rw [hll] at acell hc4 hC4' hkr'
            clear hkr hrn hC4 hll hrl
            subst hA1
            go_wp2_with fail
            refine (PRow.chequerref17_Row.calls kr A4 c4 ll 2 [x0, x1] _ hC4'.out hc4 hkr'.out).mono ?_
            rintro e w5 ⟨v5, rfl, hR5, hb5⟩
            obtain ⟨A5, c5, rfl, hc5, hF5, hblk5⟩ := R_new2 hR5
            have hF5' := Lib.hid hF5
            have hb5' := Lib.hid hb5
            have hsz5 := hb5.size
            clear hR5 hF5 hb5 hblk5
            go_wp2_with fail
            refine (told_row _ bm (i + 1 + j) own [s0, s1] _ (hTa'.out.below hb5'.out) hown'.out.cols (fun q hq => by omega) A5 c5 [x0, x1] _ hF5'.out (fun q hq h => by omega) hc5 (by simp) rfl hrn'.out (by omega)).mono ?_
            rintro e w6 ⟨go6, rfl, hF6, hT6, hm6⟩
            have hTb6 := Lib.hid ((hTb'.out.below hb5'.out).mods hm6 (fun q hq h => by omega))
            have hB6 : Below w1.heap.size w1 w6 := (hB.trans (hb5'.out.mono hB.size)).trans (hm6.below (by omega) (fun q hq h => by omega))
            have hsz6 := hm6.size
            have hF5b := Lib.hid (Kd.F_step hF5'.out (fun q hq hlt => hm6.block q hlt (fun h => by omega)))
            have hF6' := Lib.hid hF6
            have hT6' := Lib.hid hT6
            clear hF6 hT6 hm6
            go_wp2_with fail
            refine (told_row _ bo j own [s0, s1] _ hTb6.out hown'.out.cols (fun q hq => by omega) A5 c5 [x0, x1] _ hF5b.out (fun q hq h => by omega) hc5 (by simp) rfl hrn'.out (by omega)).mono ?_
            rintro e w7 ⟨go7, rfl, hF7, hT7, hm7⟩
            have hT6b := Lib.hid (hT6'.out.mods hm7 (fun q hq h => by omega))
            have hT7' := Lib.hid hT7
            have hB7 : Below w1.heap.size w1 w7 := hB6.trans (hm7.below (by omega) (fun q hq h => by omega))
            have hsz7 := hm7.size
            have hF6b := Kd.F_step hF6'.out (fun q hq hlt => hm7.block q hlt (fun h => by omega))
            obtain ⟨L0, hL0⟩ : ∃ L, endingOf own (sinceStep s0 x0) = L := ⟨_, rfl⟩
            obtain ⟨L1, hL1⟩ : ∃ L, endingOf own (sinceStep s1 x1) = L := ⟨_, rfl⟩
            have hzz : (List.zipWith sinceStep [s0, s1] [x0, x1]).map (endingOf own) = [L0, L1] := by rw [← hL0, ← hL1]; rfl
            have hl0 : L0.length ≤ 1000000 := by rw [← hL0]; have := endingOf_len own (sinceStep s0 x0); omega
            have hl1 : L1.length ≤ 1000000 := by rw [← hL1]; have := endingOf_len own (sinceStep s1 x1); omega
            rw [hzz] at hF6b hF7
            obtain ⟨kS0, hkS0⟩ := same_refl L0 hl0
            obtain ⟨kS1, hkS1⟩ := same_refl L1 hl1
            have hat : ∃ at_, PlacesAt (treeOf (own.map wordOf)) (List.zipWith sinceStep [s0, s1] [x0, x1]) at_ := by obtain ⟨at_, _, h2⟩ := hT7'.out; exact ⟨at_, h2⟩
            obtain ⟨at_, hat⟩ := hat
            have hatl : at_.length ≤ 1000000 := by rw [hat.1]; simp
            obtain ⟨kS2, hkS2⟩ := same_refl at_ hatl
            have hat' := Lib.hid hat
            obtain ⟨p1, p2, Aa0, ca0, e8, a0, hca0, hCa0⟩ := rows_get (Kd.F_now hF6b) (i := 0) (by simp)
            injection e8 with e8; injection e8 with e8 e9; subst e8; subst e9
            obtain ⟨p1, p2, Aa1, ca1, e8, a1, hca1, hCa1⟩ := rows_get (Kd.F_now hF6b) (i := 1) (by simp)
            injection e8 with e8; injection e8 with e8 e9; subst e8; subst e9
            obtain ⟨p1, p2, Ab0, cb0, e8, b0, hcb0, hCb0⟩ := rows_get (Kd.F_now hF7) (i := 0) (by simp)
            injection e8 with e8; injection e8 with e8 e9; subst e8; subst e9
            obtain ⟨p1, p2, Ab1, cb1, e8, b1, hcb1, hCb1⟩ := rows_get (Kd.F_now hF7) (i := 1) (by simp)
            injection e8 with e8; injection e8 with e8 e9; subst e8; subst e9
            simp only [List.getD_cons_zero, List.getD_cons_succ, Nat.zero_add] at a0 a1 b0 b1 hca0 hca1 hcb0 hcb1 hCa0 hCa1 hCb0 hCb1
            have hkeep := Lib.hid (fun (W : World) (hb : Below w7.heap.size w7 W) => (show W.cell? ⟨go6, 0, none⟩ = some (.slice Aa0 L0.length ca0) ∧ W.cell? ⟨go6, 1, none⟩ = some (.slice Aa1 L1.length ca1) ∧ W.cell? ⟨go7, 0, none⟩ = some (.slice Ab0 L0.length cb0) ∧ W.cell? ⟨go7, 1, none⟩ = some (.slice Ab1 L1.length cb1) from
              ⟨(hb.cell (World.block_lt_of_cell? w7 _ a0)).trans a0, (hb.cell (World.block_lt_of_cell? w7 _ a1)).trans a1, (hb.cell (World.block_lt_of_cell? w7 _ b0)).trans b0, (hb.cell (World.block_lt_of_cell? w7 _ b1)).trans b1⟩))
            have hCa0' := Lib.hid hCa0
            have hCa1' := Lib.hid hCa1
            have hCb0' := Lib.hid hCb0
            have hCb1' := Lib.hid hCb1
            have hkS0' := Lib.hid hkS0
            have hkS1' := Lib.hid hkS1
            have hkS2' := Lib.hid hkS2
            clear hF7 hT7 hm7 hF6b hL0 hL1 hzz hCa0 hCa1 hCb0 hCb1 hkS0 hkS1 hkS2 hat
            go_wp2_with fail
            refine start_ (n := 26) (S := fun w' => w'.cell? ⟨go6, 0, none⟩ = some (.slice Aa0 L0.length ca0) ∧ w'.cell? ⟨go6, 1, none⟩ = some (.slice Aa1 L1.length ca1) ∧ w'.cell? ⟨go7, 0, none⟩ = some (.slice Ab0 L0.length cb0) ∧ w'.cell? ⟨go7, 1, none⟩ = some (.slice Ab1 L1.length cb1)) (ds := []) #[false, false, false, false, false, false, false, false, false, false, false, false, false, false, false, false, false, false, false, false, false, false, false, false, false, false] (by kernel_rfl) rfl rfl (hkeep.out _ ((Below.refl _ _).drew)) (fun hHeld => ?_); refine with_tabW brk23_tab brk23_bits (fun HT_ HW_ => ?_)
            refine pure_ (i := 0) (N := some 129) (v := ?_) (a' := ?_) #[true, false, false, false, false, false, false, false, false, false, false, false, false, false, false, false, false, false, false, false, false, false, false, false, false, false] rfl rfl (any_of HT_.out (by kernel_rfl)) (fun _ _ _ h => h) (Or.inl ⟨by rfl, ?_⟩) ?_ ?_
            rotate_left
            · intro w'
              go_simp
              with_reducible rfl
            rotate_left
            · simp only [Act.put, List.setIfInBounds_toArray, List.set_cons_zero, List.set_cons_succ, i64_w, i32_w]
              rfl
            refine pure_ (i := 1) (N := some 130) (v := ?_) (a' := ?_) #[true, true, false, false, false, false, false, false, false, false, false, false, false, false, false, false, false, false, false, false, false, false, false, false, false, false] rfl rfl (any_of HT_.out (by kernel_rfl)) (fun _ _ _ h => h) (Or.inl ⟨by rfl, ?_⟩) ?_ ?_
            rotate_left
            · intro w'
              go_simp
              with_reducible rfl
            rotate_left
            · simp only [Act.put, List.setIfInBounds_toArray, List.set_cons_zero, List.set_cons_succ, i64_w, i32_w]
              rfl
            refine pure_ (i := 3) (N := some 132) (v := ?_) (a' := ?_) #[true, true, false, true, false, false, false, false, false, false, false, false, false, false, false, false, false, false, false, false, false, false, false, false, false, false] rfl rfl (any_of HT_.out (by kernel_rfl)) (fun _ _ _ h => h) (Or.inl ⟨by rfl, ?_⟩) ?_ ?_
            rotate_left
            · intro w'
              go_simp
              with_reducible rfl
            rotate_left
            · simp only [Act.put, List.setIfInBounds_toArray, List.set_cons_zero, List.set_cons_succ, i64_w, i32_w]
              rfl
            refine pure_ (i := 4) (N := some 133) (v := ?_) (a' := ?_) #[true, true, false, true, true, false, false, false, false, false, false, false, false, false, false, false, false, false, false, false, false, false, false, false, false, false] rfl rfl (any_of HT_.out (by kernel_rfl)) (fun _ _ _ h => h) (Or.inl ⟨by rfl, ?_⟩) ?_ ?_
            rotate_left
            · intro w'
              go_simp
              with_reducible rfl
            rotate_left
            · simp only [Act.put, List.setIfInBounds_toArray, List.set_cons_zero, List.set_cons_succ, i64_w, i32_w]
              rfl
            refine take_ (i := 2) (N := some 131) (v := ?_) (a' := ?_) #[true, true, true, true, true, false, false, false, false, false, false, false, false, false, false, false, false, false, false, false, false, false, false, false, false, false] rfl rfl (take_ofW HT_.out HW_.out (by kernel_rfl)) (fun _ _ _ h => h) (Or.inl ⟨by rfl, ?_⟩) hHeld ?_ ?_
            rotate_left
            · rintro w' ⟨s0, s1, s2, s3⟩
              go_simp
              with_reducible rfl
            rotate_left
            · simp only [Act.put, List.setIfInBounds_toArray, List.set_cons_zero, List.set_cons_succ, i64_w, i32_w]
              rfl
            refine take_ (i := 5) (N := some 134) (v := ?_) (a' := ?_) #[true, true, true, true, true, true, false, false, false, false, false, false, false, false, false, false, false, false, false, false, false, false, false, false, false, false] rfl rfl (take_ofW HT_.out HW_.out (by kernel_rfl)) (fun _ _ _ h => h) (Or.inl ⟨by rfl, ?_⟩) hHeld ?_ ?_
            rotate_left
            · rintro w' ⟨s0, s1, s2, s3⟩
              go_simp
              with_reducible rfl
            rotate_left
            · simp only [Act.put, List.setIfInBounds_toArray, List.set_cons_zero, List.set_cons_succ, i64_w, i32_w]
              rfl
            refine one_ (i := 6) (N := some 135) #[true, true, true, true, true, true, true, false, false, false, false, false, false, false, false, false, false, false, false, false, false, false, false, false, false, false] rfl rfl (one_of HT_.out (by kernel_rfl)) (by decide) (fun K hK => ?_)
            have k1 : Below w7.heap.size w7 w7.drew := (Below.refl _ _).drew
            refine goes_ Try.func15 (by kernel_rfl) rfl #[.slice Aa0 L0.length ca0, .slice Ab0 L0.length cb0] (by rfl) rfl rfl (by (try simp only [List.map_toArray, List.map_cons, List.map_nil]); first | done | rfl) ?_
            refine (PSame.chequerref01_Same.calls kS0 Aa0 ca0 L0 Ab0 cb0 L0 true _ (Kd.C_below hCa0'.out k1) hca0 (Kd.C_below hCb0'.out k1) hcb0 hkS0'.out).mono ?_
            rintro e wx ⟨rfl, hdx⟩
            have kx : Below w7.heap.size w7 wx := k1.trans hdx.below
            refine ⟨_, rfl, ?_⟩
            refine hK.out _ _ (hkeep.out _ kx) (fun hHeld => ?_)
            have kx' := Lib.hid kx
            clear hK K k1 hdx kx
            refine norm_ (a' := ?_) ?_ ?_
            rotate_left
            · show Act.put _ (some 135) _ = _
              simp only [Act.put, List.setIfInBounds_toArray, List.set_cons_zero, List.set_cons_succ, i64_w, i32_w]
              rfl
            refine pure_ (i := 7) (N := some 136) (v := ?_) (a' := ?_) #[true, true, true, true, true, true, true, true, false, false, false, false, false, false, false, false, false, false, false, false, false, false, false, false, false, false] rfl rfl (any_of HT_.out (by kernel_rfl)) (fun _ _ _ h => h) (Or.inl ⟨by rfl, ?_⟩) ?_ ?_
            rotate_left
            · intro w'
              go_simp
              with_reducible rfl
            rotate_left
            · simp only [Act.put, List.setIfInBounds_toArray, List.set_cons_zero, List.set_cons_succ, i64_w, i32_w]
              rfl
            refine pure_ (i := 8) (N := some 137) (v := ?_) (a' := ?_) #[true, true, true, true, true, true, true, true, true, false, false, false, false, false, false, false, false, false, false, false, false, false, false, false, false, false] rfl rfl (any_of HT_.out (by kernel_rfl)) (fun _ _ _ h => h) (Or.inl ⟨by rfl, ?_⟩) ?_ ?_
            rotate_left
            · intro w'
              go_simp
              with_reducible rfl
            rotate_left
            · simp only [Act.put, List.setIfInBounds_toArray, List.set_cons_zero, List.set_cons_succ, i64_w, i32_w]
              rfl
            refine pure_ (i := 9) (N := some 138) (v := ?_) (a' := ?_) #[true, true, true, true, true, true, true, true, true, true, false, false, false, false, false, false, false, false, false, false, false, false, false, false, false, false] rfl rfl (any_of HT_.out (by kernel_rfl)) (fun _ _ _ h => h) (Or.inl ⟨by rfl, ?_⟩) ?_ ?_
            rotate_left
            · intro w'
              go_simp
              with_reducible rfl
            rotate_left
            · simp only [Act.put, List.setIfInBounds_toArray, List.set_cons_zero, List.set_cons_succ, i64_w, i32_w]
              rfl
            refine pure_ (i := 10) (N := some 139) (v := ?_) (a' := ?_) #[true, true, true, true, true, true, true, true, true, true, true, false, false, false, false, false, false, false, false, false, false, false, false, false, false, false] rfl rfl (any_of HT_.out (by kernel_rfl)) (fun _ _ _ h => h) (Or.inl ⟨by rfl, ?_⟩) ?_ ?_
            rotate_left
            · intro w'
              go_simp
              with_reducible rfl
            rotate_left
            · simp only [Act.put, List.setIfInBounds_toArray, List.set_cons_zero, List.set_cons_succ, i64_w, i32_w]
              rfl
            refine pure_ (i := 12) (N := some 141) (v := ?_) (a' := ?_) #[true, true, true, true, true, true, true, true, true, true, true, false, true, false, false, false, false, false, false, false, false, false, false, false, false, false] rfl rfl (any_of HT_.out (by kernel_rfl)) (fun _ _ _ h => h) (Or.inl ⟨by rfl, ?_⟩) ?_ ?_
            rotate_left
            · intro w'
              go_simp
              with_reducible rfl
            rotate_left
            · simp only [Act.put, List.setIfInBounds_toArray, List.set_cons_zero, List.set_cons_succ, i64_w, i32_w]
              rfl
            refine pure_ (i := 13) (N := some 142) (v := ?_) (a' := ?_) #[true, true, true, true, true, true, true, true, true, true, true, false, true, true, false, false, false, false, false, false, false, false, false, false, false, false] rfl rfl (any_of HT_.out (by kernel_rfl)) (fun _ _ _ h => h) (Or.inl ⟨by rfl, ?_⟩) ?_ ?_
            rotate_left
            · intro w'
              go_simp
              with_reducible rfl
            rotate_left
            · simp only [Act.put, List.setIfInBounds_toArray, List.set_cons_zero, List.set_cons_succ, i64_w, i32_w]
              rfl
            refine take_ (i := 11) (N := some 140) (v := ?_) (a' := ?_) #[true, true, true, true, true, true, true, true, true, true, true, true, true, true, false, false, false, false, false, false, false, false, false, false, false, false] rfl rfl (take_ofW HT_.out HW_.out (by kernel_rfl)) (fun _ _ _ h => h) (Or.inl ⟨by rfl, ?_⟩) hHeld ?_ ?_
            rotate_left
            · rintro w' ⟨s0, s1, s2, s3⟩
              go_simp
              with_reducible rfl
            rotate_left
            · simp only [Act.put, List.setIfInBounds_toArray, List.set_cons_zero, List.set_cons_succ, i64_w, i32_w]
              rfl
            refine take_ (i := 14) (N := some 143) (v := ?_) (a' := ?_) #[true, true, true, true, true, true, true, true, true, true, true, true, true, true, true, false, false, false, false, false, false, false, false, false, false, false] rfl rfl (take_ofW HT_.out HW_.out (by kernel_rfl)) (fun _ _ _ h => h) (Or.inl ⟨by rfl, ?_⟩) hHeld ?_ ?_
            rotate_left
            · rintro w' ⟨s0, s1, s2, s3⟩
              go_simp
              with_reducible rfl
            rotate_left
            · simp only [Act.put, List.setIfInBounds_toArray, List.set_cons_zero, List.set_cons_succ, i64_w, i32_w]
              rfl
            refine one_ (i := 15) (N := some 144) #[true, true, true, true, true, true, true, true, true, true, true, true, true, true, true, true, false, false, false, false, false, false, false, false, false, false] rfl rfl (one_of HT_.out (by kernel_rfl)) (by decide) (fun K hK => ?_)
            refine goes_ Try.func15 (by kernel_rfl) rfl #[.slice Aa1 L1.length ca1, .slice Ab1 L1.length cb1] (by rfl) rfl rfl (by (try simp only [List.map_toArray, List.map_cons, List.map_nil]); first | done | rfl) ?_
            refine (PSame.chequerref01_Same.calls kS1 Aa1 ca1 L1 Ab1 cb1 L1 true _ (Kd.C_below hCa1'.out kx'.out) hca1 (Kd.C_below hCb1'.out kx'.out) hcb1 hkS1'.out).mono ?_
            rintro e wy ⟨rfl, hdy⟩
            have ky : Below w7.heap.size w7 wy := kx'.out.trans (hdy.below.mono kx'.out.size)
            refine ⟨_, rfl, ?_⟩
            refine hK.out _ _ (hkeep.out _ ky) (fun hHeld => ?_)
            have ky' := Lib.hid ky
            clear hK K hdy ky
            refine norm_ (a' := ?_) ?_ ?_
            rotate_left
            · show Act.put _ (some 144) _ = _
              simp only [Act.put, List.setIfInBounds_toArray, List.set_cons_zero, List.set_cons_succ, i64_w, i32_w]
              rfl
            refine pure_ (i := 16) (N := some 145) (v := ?_) (a' := ?_) #[true, true, true, true, true, true, true, true, true, true, true, true, true, true, true, true, true, false, false, false, false, false, false, false, false, false] rfl rfl (any_of HT_.out (by kernel_rfl)) (fun _ _ _ h => h) (Or.inl ⟨by rfl, ?_⟩) ?_ ?_
            rotate_left
            · intro w'
              go_simp
              with_reducible rfl
            rotate_left
            · simp only [Act.put, List.setIfInBounds_toArray, List.set_cons_zero, List.set_cons_succ, i64_w, i32_w]
              rfl
            refine pure_ (i := 17) (N := some 146) (v := ?_) (a' := ?_) #[true, true, true, true, true, true, true, true, true, true, true, true, true, true, true, true, true, true, false, false, false, false, false, false, false, false] rfl rfl (any_of HT_.out (by kernel_rfl)) (fun _ _ _ h => h) (Or.inl ⟨by rfl, ?_⟩) ?_ ?_
            rotate_left
            · intro w'
              go_simp
              with_reducible rfl
            rotate_left
            · simp only [Act.put, List.setIfInBounds_toArray, List.set_cons_zero, List.set_cons_succ, i64_w, i32_w]
              rfl
            refine pure_ (i := 18) (N := some 147) (v := ?_) (a' := ?_) #[true, true, true, true, true, true, true, true, true, true, true, true, true, true, true, true, true, true, true, false, false, false, false, false, false, false] rfl rfl (any_of HT_.out (by kernel_rfl)) (fun _ _ _ h => h) (Or.inl ⟨by rfl, ?_⟩) ?_ ?_
            rotate_left
            · intro w'
              go_simp
              with_reducible rfl
            rotate_left
            · simp only [Act.put, List.setIfInBounds_toArray, List.set_cons_zero, List.set_cons_succ, i64_w, i32_w]
              rfl
            refine pure_ (i := 19) (N := some 148) (v := ?_) (a' := ?_) #[true, true, true, true, true, true, true, true, true, true, true, true, true, true, true, true, true, true, true, true, false, false, false, false, false, false] rfl rfl (any_of HT_.out (by kernel_rfl)) (fun _ _ _ h => h) (Or.inl ⟨by rfl, ?_⟩) ?_ ?_
            rotate_left
            · intro w'
              go_simp
              with_reducible rfl
            rotate_left
            · simp only [Act.put, List.setIfInBounds_toArray, List.set_cons_zero, List.set_cons_succ, i64_w, i32_w]
              rfl
            refine pure_ (i := 21) (N := some 150) (v := ?_) (a' := ?_) #[true, true, true, true, true, true, true, true, true, true, true, true, true, true, true, true, true, true, true, true, false, true, false, false, false, false] rfl rfl (any_of HT_.out (by kernel_rfl)) (fun _ _ _ h => h) (Or.inl ⟨by rfl, ?_⟩) ?_ ?_
            rotate_left
            · intro w'
              go_simp
              with_reducible rfl
            rotate_left
            · simp only [Act.put, List.setIfInBounds_toArray, List.set_cons_zero, List.set_cons_succ, i64_w, i32_w]
              rfl
            refine one_ (i := 20) (N := some 149) #[true, true, true, true, true, true, true, true, true, true, true, true, true, true, true, true, true, true, true, true, true, true, false, false, false, false] rfl rfl (one_of HT_.out (by kernel_rfl)) (by decide) (fun K hK => ?_)
            refine goes_ Try.func27 (by kernel_rfl) rfl #[.pointer (some ⟨bm, 0, none⟩)] (by rfl) rfl rfl (by (try simp only [List.map_toArray, List.map_cons, List.map_nil]); first | done | rfl) ?_
            refine ((hT6b.out.below ky'.out).states_calls (by simp)).mono ?_
            rintro e wz ⟨Az, cz, atz, rfl, hcz, hPz, hFz, hbz⟩
            obtain rfl : atz = at_ := hPz.unique hown'.out.cols.good.wf hat'.out
            have kz : Below w7.heap.size w7 wz := ky'.out.trans (hbz.mono ky'.out.size)
            refine ⟨_, rfl, ?_⟩
            refine hK.out _ _ (hkeep.out _ kz) (fun hHeld => ?_)
            have kz' := Lib.hid kz
            have hFz' := Lib.hid hFz
            clear hK K hbz kz hPz hFz
            refine norm_ (a' := ?_) ?_ ?_
            rotate_left
            · show Act.put _ (some 149) _ = _
              simp only [Act.put, List.setIfInBounds_toArray, List.set_cons_zero, List.set_cons_succ, i64_w, i32_w]
              rfl
            refine one_ (i := 22) (N := some 151) #[true, true, true, true, true, true, true, true, true, true, true, true, true, true, true, true, true, true, true, true, true, true, true, false, false, false] rfl rfl (one_of HT_.out (by kernel_rfl)) (by decide) (fun K hK => ?_)
            refine goes_ Try.func27 (by kernel_rfl) rfl #[.pointer (some ⟨bo, 0, none⟩)] (by rfl) rfl rfl (by (try simp only [List.map_toArray, List.map_cons, List.map_nil]); first | done | rfl) ?_
            refine ((hT7'.out.below kz'.out).states_calls (by simp)).mono ?_
            rintro e wu ⟨Au, cu, atu, rfl, hcu, hPu, hFu, hbu⟩
            obtain rfl : atu = atz := hPu.unique hown'.out.cols.good.wf hat'.out
            have ku : Below w7.heap.size w7 wu := kz'.out.trans (hbu.mono kz'.out.size)
            have hFzu := Lib.hid (Kd.F_below hFz'.out hbu)
            refine ⟨_, rfl, ?_⟩
            refine hK.out _ _ (hkeep.out _ ku) (fun hHeld => ?_)
            have ku' := Lib.hid ku
            have hFu' := Lib.hid hFu
            clear hK K hbu ku hPu hFu
            refine norm_ (a' := ?_) ?_ ?_
            rotate_left
            · show Act.put _ (some 151) _ = _
              simp only [Act.put, List.setIfInBounds_toArray, List.set_cons_zero, List.set_cons_succ, i64_w, i32_w]
              rfl
            refine one_ (i := 23) (N := some 152) #[true, true, true, true, true, true, true, true, true, true, true, true, true, true, true, true, true, true, true, true, true, true, true, true, false, false] rfl rfl (one_of HT_.out (by kernel_rfl)) (by decide) (fun K hK => ?_)
            refine goes_ Try.func15 (by kernel_rfl) rfl #[.slice Az atu.length cz, .slice Au atu.length cu] (by rfl) rfl rfl (by (try simp only [List.map_toArray, List.map_cons, List.map_nil]); first | done | rfl) ?_
            refine (PSame.chequerref01_Same.calls kS2 Az cz atu Au cu atu true _ (Kd.F_now hFzu.out) hcz (Kd.F_now hFu'.out) hcu hkS2'.out).mono ?_
            rintro e wv ⟨rfl, hdv⟩
            have kv : Below w7.heap.size w7 wv := ku'.out.trans (hdv.below.mono ku'.out.size)
            refine ⟨_, rfl, ?_⟩
            refine hK.out _ _ (hkeep.out _ kv) (fun hHeld => ?_)
            have kv' := Lib.hid kv
            clear hK K hdv kv
            refine norm_ (a' := ?_) ?_ ?_
            rotate_left
            · show Act.put _ (some 152) _ = _
              simp only [Act.put, List.setIfInBounds_toArray, List.set_cons_zero, List.set_cons_succ, i64_w, i32_w]
              rfl
            refine pure_ (i := 24) (N := some 153) (v := ?_) (a' := ?_) #[true, true, true, true, true, true, true, true, true, true, true, true, true, true, true, true, true, true, true, true, true, true, true, true, true, false] rfl rfl (any_of HT_.out (by kernel_rfl)) (fun _ _ _ h => h) (Or.inl ⟨by rfl, ?_⟩) ?_ ?_
            rotate_left
            · intro w'
              go_simp
              with_reducible rfl
            rotate_left
            · simp only [Act.put, List.setIfInBounds_toArray, List.set_cons_zero, List.set_cons_succ, i64_w, i32_w]
              rfl
            refine pure_ (i := 25) (N := some 154) (v := ?_) (a' := ?_) #[true, true, true, true, true, true, true, true, true, true, true, true, true, true, true, true, true, true, true, true, true, true, true, true, true, true] rfl rfl (any_of HT_.out (by kernel_rfl)) (fun _ _ _ h => h) (Or.inl ⟨by rfl, ?_⟩) ?_ ?_
            rotate_left
            · intro w'
              go_simp
              with_reducible rfl
            rotate_left
            · simp only [Act.put, List.setIfInBounds_toArray, List.set_cons_zero, List.set_cons_succ, i64_w, i32_w]
              rfl
            refine done_ (done_of HT_.out (by kernel_rfl)) ?_
            have hszv := kv'.out.size
            clear hHeld
            go_wp2_with fail
            go_roundw
            case rel => exact ⟨j + 1, _, by go_num, by omega, rfl, hT6b.out.below kv'.out, hT7'.out.below kv'.out, hB7.trans (kv'.out.mono hB7.size), by omega⟩
            case measure => simp [intOf]; omega
          · obtain rfl : j = 6 := by omega
            go_wp2_with fail
            refine (lives17_calls _).mono ?_
            rintro e w9 ⟨rfl, hb9⟩
            have hb9' := Lib.hid hb9
            clear hb9
            go_wp2_with fail
            go_ret
            exact ⟨rfl, (hb1'.out.trans (hB.mono hb1'.out.size)).trans (hb9'.out.mono (Nat.le_trans hb1'.out.size hB.size))⟩
        · skip
          go_wp2_with fail
          refine (lives17_calls _).mono ?_
          rintro e w9 ⟨rfl, hb9⟩
          have hb9' := Lib.hid hb9
          clear hb9
          go_wp2_with fail
          go_ret
          exact ⟨rfl, (hb1'.out.trans (hB.mono hb1'.out.size)).trans (hb9'.out.mono (Nat.le_trans hb1'.out.size hB.size))⟩
end Go.Proofs.Ytlkiajepahkliaa
