/- chequerlaw17.ColsApart: the walk. -/
import Derived.Test.YtlkiajepahkliaaKLawAid
import Derived.Test.YtlkiajepahkliaaKOwn17
namespace Go.Proofs.Ytlkiajepahkliaa
open Go.RowKit Go.Proofs.YtlkiajepahkliaaW.PrintWords
set_option linter.unusedVariables false
set_option linter.unusedSimpArgs false

set_option maxRecDepth 100000 in
set_option maxHeartbeats 8000000 in
theorem colsApart_walk (A0 : Option Addr) (c0 : Nat) (l0 : List (List Int)) (A1 : Option Addr) (c1 : Nat) (l1 : List (List Int)) (a2 : Int) (w : World) (hr0 : (Kd.slice 3 (Kd.int .i64)).C w A0 l0.length l0) (hc0 : l0.length ≤ c0)
    (hr1 : (Kd.slice 3 (Kd.int .i64)).C w A1 l1.length l1) (hc1 : l1.length ≤ c1) (hw2 : (Lit.int .i64 a2).wf = true) :
    Calls Try.prog 7 #[.slice A0 l0.length c0, .slice A1 l1.length c1, .int .i64 a2] w fun e w' => e = .returned (.bool true) ∧ Below w.heap.size w w' := by
  obtain ⟨ks, own, hks, hown⟩ := small17_spec l0
  obtain ⟨x, hx, hx4⟩ := around_spec a2 4 (by decide) (by decide) hw2
  have hr0' := Lib.hid hr0
  have hr1' := Lib.hid hr1
  have hks' := Lib.hid hks
  have hx' := Lib.hid hx
  have hown' := Lib.hid hown
  have hol : own.length ≤ 6 := hown.few
  have hm1 : l1.length ≤ 9223372036854775807 := hr1.2.1
  have hall := auto_len hown.cols.good.wf
  have hnod := hown.cols.good.nodes
  clear hr0 hr1 hks hown hx hw2
  go_enter Try.func7, Try.ntmps7
  go_wp2_with fail
  refine (PSmall.chequerref17_Small.calls ks A0 c0 l0 own _ hr0'.out hc0 hks'.out).mono ?_
  rintro e w1 ⟨v0, rfl, hS, hb1⟩
  obtain ⟨Ao, co, rfl, hco, hFo⟩ := S_open hS
  have hFo' := Lib.hid hFo
  have hb1' := Lib.hid hb1
  clear hS hFo hb1
  go_wp2_with fail
  refine (told_new _ co own 4 _ (Kd.F_now hFo'.out) hco hown'.out.cols (by decide)).mono ?_
  rintro e w2 ⟨bm, rfl, hT2, hb2⟩
  have hT2' := Lib.hid hT2
  have hb2' := Lib.hid hb2
  have hsz2 := hb2.size
  clear hT2 hb2
  go_wp2_with fail
  refine (told_new _ co own 1 _ (Kd.F_now (Kd.F_below hFo'.out hb2'.out)) hco hown'.out.cols (by decide)).mono ?_
  rintro e w3 ⟨bo, rfl, hT3, hb3⟩
  have hT3' := Lib.hid hT3
  have hT2b := Lib.hid (hT2'.out.below hb3)
  have hB13 := Lib.hid (hb2'.out.trans (hb3.mono hb2'.out.size))
  have hsz3 := hb3.size
  clear hT3 hb3 hT2' hb2'
  go_wp2_with fail
  refine (PAround.chequerref01_Around.calls a2 4 x _ hx'.out).mono ?_
  rintro e w4 ⟨rfl, ⟨nd, rfl⟩⟩
  have hT3c := Lib.hid (hT3'.out.below (drewN_below w3 nd))
  have hT2c := Lib.hid (hT2b.out.below (drewN_below w3 nd))
  have hB14 := Lib.hid (hB13.out.trans ((drewN_below w3 nd).mono (by omega)))
  have hsz4 : (w3.drewN nd).heap.size = w3.heap.size := rfl
  obtain ⟨w4, hw4⟩ : ∃ w4, w3.drewN nd = w4 := ⟨_, rfl⟩
  rw [hw4] at hT3c hT2c hB14 hsz4 ⊢
  clear hw4 hT3' hT2b hB13
  go_wp2_with fail
  go_loopw [13] (fun y wr => ∃ (i : Nat) (ss : List (List Int)), y = .int .i64 i ∧ i ≤ 10 ∧ ss.length = 4 ∧ Told (fun k => w1.heap.size ≤ k ∧ k < w2.heap.size) wr bm own ss i ∧ Told (fun k => w2.heap.size ≤ k ∧ k < w3.heap.size) wr bo own [ss.getD x []] i ∧ Below w1.heap.size w1 wr ∧ w3.heap.size ≤ wr.heap.size) (fun y _ => 10 - (intOf y).toNat)
  case atStart => exact ⟨0, List.replicate 4 [], rfl, Nat.zero_le _, rfl, hT2c.out, by
    have h1 : (List.replicate 4 ([] : List Int)).getD x [] = [] := (by decide : ∀ y, y < 4 → (List.replicate 4 ([] : List Int)).getD y [] = []) x hx4
    rw [h1]; exact hT3c.out, hB14.out, by omega⟩
  case round =>
    obtain ⟨i, ss, rfl, hi, hss, hTa, hTb, hB, hsz⟩ := hrel
    have hTa' := Lib.hid hTa
    have hTb' := Lib.hid hTb
    have hss' := Lib.hid hss
    clear hTa hTb hss hT3c hT2c hB14
    by_cases hk2 : i < l1.length
    · by_cases hk3 : i < 10
      · have hWr : Below w.heap.size w wr := hb1'.out.trans (hB.mono hb1'.out.size)
        obtain ⟨ba, oa, A4, c4, hA1, acell, hc4, hC4⟩ := rows_get (Kd.C_below hr1'.out hWr) hk2
        obtain ⟨kr, r, hkr, hrl, hrn⟩ := row17_spec (l1.getD i []) 4 (by decide)
        have hkr' := Lib.hid hkr
        have hrn' := Lib.hid hrn
        have hC4' := Lib.hid hC4
        have hrl' := Lib.hid hrl
        obtain ⟨ll, hll⟩ : ∃ ll, l1.getD i [] = ll := ⟨_, rfl⟩
        rw [hll] at acell hc4 hC4' hkr'
        clear hkr hrn hC4 hll
        subst hA1
        go_wp2_with fail
        refine (PRow.chequerref17_Row.calls kr A4 c4 ll 4 r _ hC4'.out hc4 hkr'.out).mono ?_
        rintro e w5 ⟨v5, rfl, hR5, hb5⟩
        obtain ⟨A5, c5, rfl, hc5, hF5, hblk5⟩ := R_new2 hR5
        obtain ⟨b5, o5, rfl, hcell5⟩ := C_cells (Kd.F_now hF5) (by omega)
        have hb5b := hblk5 _ rfl
        simp only at hb5b
        have hF5' := Lib.hid hF5
        have hb5' := Lib.hid hb5
        have hsz5 := hb5.size
        have hxc := hcell5 x (by omega)
        have hxc' := Lib.hid hxc
        rw [hrl] at hc5
        clear hR5 hF5 hb5 hcell5 hxc hblk5
        rw [hrl]
        clear hrl
        go_wp2_with fail
        rw [← hrl'.out]
        refine (told_row _ bm i own ss _ (hTa'.out.below hb5'.out) hown'.out.cols (fun q hq => by omega) (some ⟨b5, o5, none⟩) c5 r _ hF5'.out (fun q hq h => by omega) (by rw [hrl'.out]; exact hc5) (by rw [hss'.out]; decide) (by rw [hrl'.out, hss'.out]) hrn'.out (by omega)).mono ?_
        rintro e w6 ⟨go6, rfl, hF6, hT6, hm6⟩
        rw [hrl'.out] at hF6 ⊢
        have hTb6 := Lib.hid ((hTb'.out.below hb5'.out).mods hm6 (fun q hq h => by omega))
        have hx6 := (hm6.block b5 (World.block_lt_of_cell? w5 _ hxc'.out) (fun h => by omega))
        have hxc6 := Lib.hid ((World.cell?_of_block (a := ⟨b5, o5 + x, none⟩) hx6).trans hxc'.out)
        have hB6 : Below w1.heap.size w1 w6 := (hB.trans (hb5'.out.mono hB.size)).trans (hm6.below (by omega) (fun q hq h => by omega))
        have hsz6 := hm6.size
        have hF6' := Lib.hid hF6
        have hT6' := Lib.hid hT6
        have hcx : ¬ (c5 = x) := by omega
        have hx0 : (0 : Int) ≤ (x : Int) := by omega
        have hx1 : (x : Int) < 4 := by omega
        obtain ⟨rx, hrx⟩ : ∃ rx, r.getD x 0 = rx := ⟨_, rfl⟩
        rw [hrx] at hxc6
        have hrxn : negB rx = false := by
          have h1 := List.any_eq_false.1 hrn'.out rx (by rw [← hrx, List.getD_eq_getElem?_getD, List.getElem?_eq_getElem (by rw [hrl'.out]; omega)]; exact List.getElem_mem _)
          simpa using h1
        have hrx' := Lib.hid hrx
        have hrxn' := Lib.hid hrxn
        clear hF6 hT6 hm6 hx6 hrx hrxn
        go_wp2_with fail
        refine (told_row _ bo i own [ss.getD x []] _ hTb6.out hown'.out.cols (fun q hq => by omega) (some ⟨b5, o5 + x, none⟩) (c5 - x) [rx] (fun k => w3.heap.size ≤ k) (F_cells (l := [rx]) (fun q hq => by
          have hq0 : q = 0 := by simpa using hq
          subst hq0
          exact hxc6.out) (by simp) (by omega)) (fun q hq h => by omega) (by simp; omega) (by simp) rfl (by simp [hrxn'.out]) (by omega)).mono ?_
        rintro e w7 ⟨go7, rfl, hF7, hT7, hm7⟩
        have hT6b := Lib.hid (hT6'.out.mods hm7 (fun q hq h => by omega))
        have hB7 : Below w1.heap.size w1 w7 := hB6.trans (hm7.below (by omega) (fun q hq h => by omega))
        have hsz7 := hm7.size
        have hF6b := Kd.F_step hF6'.out (fun q hq hlt => hm7.block q hlt (fun h => by omega))
        have hzl : (List.zipWith sinceStep ss r).length = 4 := by rw [List.length_zipWith, hss'.out, hrl'.out]; rfl
        obtain ⟨L, hL⟩ : ∃ L, endingOf own (sinceStep (ss.getD x []) rx) = L := ⟨_, rfl⟩
        have hgx : ((List.zipWith sinceStep ss r).map (endingOf own)).getD x [] = L := by
          rw [map_get (by omega), zip_get (by rw [hrl'.out]; omega) (by rw [hss'.out]; omega), hrx'.out, hL]
        have hzx : (List.zipWith sinceStep ss r).getD x [] = sinceStep (ss.getD x []) rx := by rw [zip_get (by rw [hrl'.out]; omega) (by rw [hss'.out]; omega), hrx'.out]
        have hLl : L.length ≤ 1000000 := by rw [← hL]; have := endingOf_len own (sinceStep (ss.getD x []) rx); omega
        obtain ⟨oas, hoas⟩ : ∃ oas, (List.zipWith sinceStep ss r).map (endingOf own) = oas := ⟨_, rfl⟩
        have hoal : oas.length = 4 := by rw [← hoas, List.length_map, hzl]
        rw [hoas] at hF6b hgx
        have hF7b : Kd.F (Kd.slice 3 (Kd.int .i64)) w7 (fun k => w6.heap.size ≤ k) (some ⟨go7, 0, none⟩) 1 [L] := by
          have h1 : (List.zipWith sinceStep [ss.getD x []] [rx]).map (endingOf own) = [L] := by rw [← hL]; rfl
          rw [h1] at hF7
          exact hF7
        have hT7b : Hid (Told (fun k => w2.heap.size ≤ k ∧ k < w3.heap.size) w7 bo own [(List.zipWith sinceStep ss r).getD x []] (i + 1)) := Lib.hid (by rw [hzx]; exact hT7)
        obtain ⟨b8, o8, A8, c8, e8, a8, hc8, hC8⟩ := rows_get (w := w7) (ls := oas) (by rw [hoal]; exact Kd.F_now hF6b) (i := x) (by omega)
        injection e8 with e8; injection e8 with e8 e9; subst e8; subst e9
        rw [hgx, Nat.zero_add] at a8
        rw [hgx] at hc8 hC8
        obtain ⟨b9, o9, A9, c9, e8, a9, hc9, hC9⟩ := rows_get (Kd.F_now hF7b) (i := 0) (by simp)
        injection e8 with e8; injection e8 with e8 e9; subst e8; subst e9
        simp only [List.getD_cons_zero, Nat.zero_add] at a9 hc9 hC9
        obtain ⟨kS, hkS⟩ := same_refl L hLl
        have hsame := Lib.hid (fun n => quiet_drawn (n := n) (PSame.chequerref01_Same.calls kS A8 c8 L A9 c9 L true (w7.drewN n) (Kd.C_below hC8 (drewN_below _ _)) hc8 (Kd.C_below hC9 (drewN_below _ _)) hc9 hkS))
        have hroom : Hid (∀ n, Calls Try.prog 29 #[.pointer (some ⟨bm, 0, none⟩)] (w7.drewN n) fun e w'' => e = .returned (.int .i64 4) ∧ ∃ m, w'' = w7.drewN m) := Lib.hid (fun n => by
          have h1 := (hT6b.out.below (drewN_below w7 n)).room_calls
          rw [hzl] at h1
          exact quiet_same h1)
        obtain ⟨N, hN⟩ : ∃ N, List.length (treeOf (own.map wordOf)).auto = N := ⟨_, rfl⟩
        have hsize1 : Hid (∀ n, Calls Try.prog 30 #[.pointer (some ⟨bm, 0, none⟩)] (w7.drewN n) fun e w'' => e = .returned (.int .i64 N) ∧ ∃ m, w'' = w7.drewN m) := Lib.hid (fun n => by
          have h1 := (hT6b.out.below (drewN_below w7 n)).size_calls hown'.out.cols
          rw [hN] at h1
          exact quiet_same h1)
        have hsize2 : Hid (∀ n, Calls Try.prog 30 #[.pointer (some ⟨bo, 0, none⟩)] (w7.drewN n) fun e w'' => e = .returned (.int .i64 N) ∧ ∃ m, w'' = w7.drewN m) := Lib.hid (fun n => by
          have h1 := (hT7.below (drewN_below w7 n)).size_calls hown'.out.cols
          rw [hN] at h1
          exact quiet_same h1)
        clear hF7 hT7 hm7 hF6b hL hgx hzx hoas hF7b hC8 hC9 hkS hN hzl
        go_wp2_with fail
        go_quiet ((first
          | (go_at_call 15; exact hsame.out _)
          | (go_at_call 29; exact hroom.out _)
          | (go_at_call 30; exact hsize1.out _)
          | (go_at_call 30; exact hsize2.out _)))
        go_wp2_with fail
        go_roundw
        case rel => exact ⟨i + 1, _, by go_num, by omega, by rw [List.length_zipWith, hss'.out, hrl'.out]; rfl, hT6b.out.below (drewN_below _ _), hT7b.out.below (drewN_below _ _), hB7.trans ((drewN_below _ _).mono (by omega)), by show w3.heap.size ≤ w7.heap.size; omega⟩
        case measure => simp [intOf]; omega
      · obtain rfl : i = 10 := by omega
        go_wp2_with fail
        refine (lives17_calls _).mono ?_
        rintro e w9 ⟨rfl, hb9⟩
        have hb9' := Lib.hid hb9
        clear hb9
        go_wp2_with fail
        go_ret
        exact ⟨rfl, (hb1'.out.trans (hB.mono hb1'.out.size)).trans (hb9'.out.mono (Nat.le_trans hb1'.out.size hB.size))⟩
    · skip
      go_wp2_with fail
      refine (lives17_calls _).mono ?_
      rintro e w9 ⟨rfl, hb9⟩
      have hb9' := Lib.hid hb9
      clear hb9
      go_wp2_with fail
      go_ret
      exact ⟨rfl, (hb1'.out.trans (hB.mono hb1'.out.size)).trans (hb9'.out.mono (Nat.le_trans hb1'.out.size hB.size))⟩
end Go.Proofs.Ytlkiajepahkliaa
