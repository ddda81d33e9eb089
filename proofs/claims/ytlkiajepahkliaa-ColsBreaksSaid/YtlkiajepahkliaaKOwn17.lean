/- chequerlaw17.ColsOwn: the walk. -/
import Derived.Test.YtlkiajepahkliaaKLives17
import Derived.Test.YtlkiajepahkliaaKRef17
namespace Go.Proofs.Ytlkiajepahkliaa
open Go.RowKit Go.Proofs.YtlkiajepahkliaaW.PrintWords
set_option linter.unusedVariables false
set_option linter.unusedSimpArgs false

theorem S_open {α : Type} {d : Kd α} {e base : Nat} {ok : Nat → Prop} {w : World} {v : Value} {xs : List α} (h : Kd.S d e w base ok v xs) : ∃ A c, v = .slice A xs.length c ∧ xs.length ≤ c ∧ Kd.F d w ok A xs.length xs := Kd.S_V (base' := base) h
theorem R_open {α : Type} {d : Kd α} {e base : Nat} {ok : Nat → Prop} {w : World} {v : Value} {xs : List α} (h : d.R e w base ok v xs) : ∃ A c, v = .slice A xs.length c ∧ xs.length ≤ c ∧ Kd.F d w ok A xs.length xs := Kd.R_V (base' := base) h
theorem R_newF {α : Type} {d : Kd α} {e base : Nat} {ok : Nat → Prop} {w : World} {v : Value} {xs : List α} (h : d.R e w base ok v xs) : ∃ A c, v = .slice A xs.length c ∧ xs.length ≤ c ∧ Kd.F d w (fun k => base ≤ k) A xs.length xs := R_open (Kd.R_mono (Kd.R_bound h) (fun _ hk => hk.2.1))

theorem one_of_len {l : List Int} (h : l.length = 1) : ∃ x, l = [x] := by
  match l, h with
  | [x], _ => exact ⟨x, rfl⟩

/-- Whether column i ends when k of its numbers are told behind s0. -/
def hasAt (own : List (List Int)) (i : Nat) (s0 row : List Int) (k : Nat) : Bool := decide (0 < k) && (endingOf own (s0 ++ wordOf (row.take k))).any (fun x => x == (i : Int))
theorem hasAt_all {own : List (List Int)} {i : Nat} {s0 row : List Int} (hi : i < own.length) (hrow : own.getD i [] = row) (h0 : 0 < row.length) : hasAt own i s0 row row.length = true := by
  unfold hasAt
  rw [List.take_length]
  have h1 : (i : Int) ∈ endingOf own (s0 ++ wordOf row) := (mem_endingOf hi).2 (by rw [hrow]; exact ⟨s0, rfl⟩)
  have h2 : (endingOf own (s0 ++ wordOf row)).any (fun x => x == (i : Int)) = true := List.any_eq_true.2 ⟨_, h1, by simp⟩
  rw [h2]
  simp [h0]
def anyUpto (out : List Int) (i : Int) (j : Nat) : Bool := (out.take j).any fun x => x == i
theorem anyUpto_succ {out : List Int} {i : Int} {j : Nat} (hj : j < out.length) : anyUpto out i (j + 1) = (anyUpto out i j || (out.getD j 0 == i)) := by
  unfold anyUpto
  rw [List.take_succ_eq_append_getElem hj, List.any_append]
  simp [hj]
theorem endingOf_len (own : List (List Int)) (s : List Int) : (endingOf own s).length ≤ own.length := by
  unfold endingOf
  rw [List.length_map]
  exact Nat.le_trans (List.length_filter_le _ _) (by simp)

set_option maxRecDepth 100000 in
set_option maxHeartbeats 8000000 in
theorem colsOwn_walk (A0 : Option Addr) (c0 : Nat) (l0 : List (List Int)) (A1 : Option Addr) (c1 : Nat) (l1 : List (List Int)) (w : World) (hr0 : (Kd.slice 3 (Kd.int .i64)).C w A0 l0.length l0) (hc0 : l0.length ≤ c0)
    (hr1 : (Kd.slice 3 (Kd.int .i64)).C w A1 l1.length l1) (hc1 : l1.length ≤ c1) :
    Calls Try.prog 4 #[.slice A0 l0.length c0, .slice A1 l1.length c1] w fun e w' => e = .returned (.bool true) ∧ Below w.heap.size w w' := by
  obtain ⟨ks, own, hks, hown⟩ := small17_spec l0
  have hr0' := Lib.hid hr0
  have hr1' := Lib.hid hr1
  have hks' := Lib.hid hks
  have hown' := Lib.hid hown
  have hol : own.length ≤ 6 := hown.few
  have hm1 : l1.length ≤ 9223372036854775807 := hr1.2.1
  clear hr0 hr1 hks hown
  go_enter Try.func4, Try.ntmps4
  go_wp2_with fail
  refine (PSmall.chequerref17_Small.calls ks A0 c0 l0 own _ hr0'.out hc0 hks'.out).mono ?_
  rintro e w1 ⟨v0, rfl, hS, hb1⟩
  obtain ⟨Ao, co, rfl, hco, hFo⟩ := S_open hS
  have hFo' := Lib.hid hFo
  have hb1' := Lib.hid hb1
  clear hS hFo hb1
  go_wp2_with fail
  go_loopw [6] (fun x wr => ∃ i : Nat, x = .int .i64 i ∧ i ≤ own.length ∧ Below w1.heap.size w1 wr) (fun x _ => own.length - (intOf x).toNat)
  case atStart => exact ⟨0, rfl, Nat.zero_le _, Below.refl _ _⟩
  case round =>
    obtain ⟨i, rfl, hi, hB⟩ := hrel
    by_cases hlt : i < own.length
    · have hCo := Lib.hid (Kd.F_now (Kd.F_below hFo'.out hB))
      have hmem : own.getD i [] ∈ own := by rw [List.getD_eq_getElem?_getD, List.getElem?_eq_getElem hlt]; exact List.getElem_mem hlt
      have hoi := hown'.out.each _ hmem
      obtain ⟨bo, oo, Ai, ci, hAo, ecell, hci, hCi⟩ := rows_get (Kd.F_now hFo'.out) hlt
      obtain ⟨row, hrow⟩ : ∃ row, own.getD i [] = row := ⟨_, rfl⟩
      rw [hrow] at hoi ecell hci hCi
      have hr0 : 0 < row.length := List.length_pos_iff.2 hoi.1
      have hr4 : row.length ≤ 4 := hoi.2.1
      obtain ⟨bi, off, rfl, hcells⟩ := C_cells hCi hr0
      have hcells' := Lib.hid hcells
      have ecell' := Lib.hid ecell
      have hxs := Lib.hid hoi.2.2
      have hrow' := Lib.hid hrow
      have hAo' := Lib.hid hAo
      obtain ⟨wo, rfl⟩ : ∃ wo : World, wo = wr := ⟨_, rfl⟩
      clear hmem hoi hrow hCi hcells ecell
      subst hAo
      go_wp2_with fail
      refine (told_new _ co own 1 _ hCo.out hco hown'.out.cols (by decide)).mono ?_
      rintro e w2 ⟨bm, rfl, hT, hb2⟩
      have hT' := Lib.hid hT
      have hB12 := Lib.hid (hB.trans (hb2.mono hB.size))
      have hsz1 := hB.size
      have hsz2 := hb2.size
      clear hT hb2
      go_wp2_with fail
      go_loopw [9] (fun y wr => ∃ (k : Nat) (s : List Int), y = .int .i64 k ∧ k ≤ 6 ∧ Told (fun k => wo.heap.size ≤ k ∧ k < w2.heap.size) wr bm own [s] k ∧ Below w1.heap.size w1 wr ∧ w2.heap.size ≤ wr.heap.size) (fun y _ => 6 - (intOf y).toNat)
      case atStart => exact ⟨0, [], rfl, Nat.zero_le _, hT'.out, hB12.out, Nat.le_refl _⟩
      case round =>
        obtain ⟨k, s, rfl, hk, hTk, hB2, hsz⟩ := hrel
        have hTk' := Lib.hid hTk
        clear hTk
        by_cases hk2 : k < l1.length
        · by_cases hk3 : k < 6
          · have hWr : Below w.heap.size w wr := hb1'.out.trans (hB2.mono hb1'.out.size)
            obtain ⟨ba, oa, A4, c4, hA1, acell, hc4, hC4⟩ := rows_get (Kd.C_below hr1'.out hWr) hk2
            obtain ⟨kr, r, hkr, hrl, hrn⟩ := row17_spec (l1.getD k []) 1 (by decide)
            have hkr' := Lib.hid hkr
            have hrn' := Lib.hid hrn
            have hC4' := Lib.hid hC4
            obtain ⟨x, rfl⟩ := one_of_len hrl
            obtain ⟨ll, hll⟩ : ∃ ll, l1.getD k [] = ll := ⟨_, rfl⟩
            rw [hll] at acell hc4 hC4' hkr'
            clear hkr hrn hC4 hrl hll
            subst hA1
            go_wp2_with fail
            refine (PRow.chequerref17_Row.calls kr A4 c4 ll 1 [x] _ hC4'.out hc4 hkr'.out).mono ?_
            rintro e w3 ⟨v3, rfl, hR3, hb3⟩
            obtain ⟨A3, c3, rfl, hc3, hF3⟩ := R_newF hR3
            have hF3' := Lib.hid hF3
            have hb3' := Lib.hid hb3
            have hsz3 := hb3.size
            clear hR3 hF3 hb3
            go_wp2_with fail
            refine (told_row _ bm k own [s] _ (hTk'.out.below hb3'.out) hown'.out.cols (fun q hq => by omega) A3 c3 [x] _ hF3'.out (fun q hq h => by omega) hc3 (by simp) rfl hrn'.out (by omega)).mono ?_
            rintro e w4 ⟨go4, rfl, _, hT4, hm4⟩
            have hT4' := Lib.hid hT4
            have hB4 : Below w1.heap.size w1 w4 := (hB2.trans (hb3'.out.mono hB2.size)).trans (hm4.below (by have := hB2.size; omega) (fun q hq h => by omega))
            have hsz4 := hm4.size
            clear hT4 hm4
            go_wp2_with fail
            go_roundw
            case rel => exact ⟨k + 1, _, by go_num, by omega, hT4'.out, hB4, by omega⟩
            case measure => simp [intOf]; omega
          · obtain rfl : k = 6 := by omega
            go_wp2_with fail
            clear hT'
            go_loopw [10, 11] (fun hv y wr => ∃ j : Nat, y = .int .i64 j ∧ hv = .bool (hasAt own i s row j) ∧ j ≤ row.length ∧ Told (fun k => wo.heap.size ≤ k ∧ k < w2.heap.size) wr bm own [s ++ wordOf (row.take j)] (6 + j) ∧ Below w1.heap.size w1 wr ∧ w2.heap.size ≤ wr.heap.size) (fun _ y _ => row.length - (intOf y).toNat)
            case atStart => exact ⟨0, rfl, rfl, Nat.zero_le _, by simpa [wordOf] using hTk'.out, hB2, hsz⟩
            case round =>
              clear hTk' hB2 hsz
              obtain ⟨j, rfl, rfl, hj, hTj, hB2, hsz⟩ := hrel
              have hTj' := Lib.hid hTj
              have e1 := (hB2.cell (World.block_lt_of_cell? w1 _ ecell'.out)).trans ecell'.out
              clear hTj
              by_cases hjl : j < row.length
              · have d1 := hcells'.out j hjl
                have d2 := (hB2.cell (World.block_lt_of_cell? w1 _ d1)).trans d1
                have hbi : bi < w1.heap.size := World.block_lt_of_cell? w1 _ d1
                obtain ⟨x, hx⟩ : ∃ x, row.getD j 0 = x := ⟨_, rfl⟩
                have hxr := hxs.out x (by rw [← hx, List.getD_eq_getElem?_getD, List.getElem?_eq_getElem hjl]; exact List.getElem_mem hjl)
                have hdw := drop_word hjl
                rw [hx] at d2 hdw
                have hst : sinceStep (s ++ wordOf (row.take j)) x = s ++ wordOf (row.take (j + 1)) := by
                  unfold sinceStep
                  rw [if_neg (by omega), hdw, List.append_assoc]
                have hst' := Lib.hid hst
                have hFx : Kd.F (Kd.int .i64) wr (fun k => k < w1.heap.size) (some ⟨bi, off + j, none⟩) 1 [x] := F_cells (l := [x]) (fun q hq => by
                  have hq0 : q = 0 := by simpa using hq
                  subst hq0
                  exact d2) (by simp) hbi
                have hFx' := Lib.hid hFx
                have hcj : ¬ (ci = j) := by omega
                clear d1 d2 hx hdw hst hFx
                go_wp2_with fail
                refine (told_row _ bm (6 + j) own [s ++ wordOf (row.take j)] _ hTj'.out hown'.out.cols (fun q hq => by omega) (some ⟨bi, off + j, none⟩) _ [x] _ hFx'.out (fun q hq h => by omega) (by simp; omega) (by simp) rfl (by simp [negB]; omega) (by omega)).mono ?_
                rintro e w4 ⟨go4, rfl, hF4, hT4, hm4⟩
                have hT4' : Hid (Told (fun k => wo.heap.size ≤ k ∧ k < w2.heap.size) w4 bm own [s ++ wordOf (row.take (j + 1))] (6 + j + 1)) := by
                  have h1 : List.zipWith sinceStep [s ++ wordOf (row.take j)] [x] = [s ++ wordOf (row.take (j + 1))] := by rw [← hst'.out]; rfl
                  rw [h1] at hT4
                  exact Lib.hid hT4
                have hF4b : Kd.F (Kd.slice 3 (Kd.int .i64)) w4 (fun k => wr.heap.size ≤ k) (some ⟨go4, 0, none⟩) 1 [endingOf own (s ++ wordOf (row.take (j + 1)))] := by
                  have h1 : (List.zipWith sinceStep [s ++ wordOf (row.take j)] [x]).map (endingOf own) = [endingOf own (s ++ wordOf (row.take (j + 1)))] := by rw [← hst'.out]; rfl
                  rw [h1] at hF4
                  exact hF4
                have hB4 : Below w1.heap.size w1 w4 := hB2.trans (hm4.below (by have := hB2.size; omega) (fun q hq h => by omega))
                have hsz4 := hm4.size
                have hol2 := endingOf_len own (s ++ wordOf (row.take (j + 1)))
                obtain ⟨out, hout⟩ : ∃ out, endingOf own (s ++ wordOf (row.take (j + 1))) = out := ⟨_, rfl⟩
                rw [hout] at hF4b hol2
                have hhas : hasAt own i s row (j + 1) = anyUpto out (i : Int) out.length := by unfold hasAt anyUpto; rw [hout, List.take_length]; simp
                have hhas' := Lib.hid hhas
                obtain ⟨b5, o5, A5, c5, e5, a5, hc5, hC5⟩ := rows_get (Kd.F_now hF4b) (i := 0) (by simp)
                injection e5 with e5; injection e5 with e5 e6; subst e5; subst e6
                simp only [List.getD_cons_zero, Nat.zero_add] at a5 hc5 hC5
                have hC5' := Lib.hid hC5
                clear hF4 hT4 hF4b hm4 hout hhas hC5 e1
                go_wp2_with fail
                go_loop [10, 14] (fun hv y => ∃ q : Nat, y = .int .i64 q ∧ hv = .bool (anyUpto out (i : Int) q) ∧ q ≤ out.length) (fun _ y => out.length - (intOf y).toNat)
                case atStart => exact ⟨0, rfl, rfl, Nat.zero_le _⟩
                case round =>
                  obtain ⟨q, rfl, rfl, hq⟩ := hrel
                  by_cases hql : q < out.length
                  · obtain ⟨b6, o6, rfl, hcell6⟩ := C_cells hC5'.out (by omega)
                    have f1 := hcell6 q hql
                    have hsu := anyUpto_succ (i := (i : Int)) hql
                    obtain ⟨z, hz⟩ : ∃ z, out.getD q 0 = z := ⟨_, rfl⟩
                    rw [hz] at f1 hsu
                    obtain ⟨b, hb⟩ : ∃ b, anyUpto out (i : Int) q = b := ⟨_, rfl⟩
                    rw [hb] at hsu ⊢
                    have hsu' := Lib.hid hsu
                    clear hcell6 hz hb hsu
                    cases b with
                    | true =>
                      go_wp2_with fail
                      go_round
                      case rel => exact ⟨q + 1, by go_num, by rw [hsu'.out]; rfl, by omega⟩
                      case measure => simp [intOf]; omega
                    | false =>
                      go_wp2_with fail
                      go_round
                      case rel => exact ⟨q + 1, by go_num, by rw [hsu'.out]; simp, by omega⟩
                      case measure => simp [intOf]; omega
                  · obtain rfl : q = out.length := by omega
                    go_wp2_with fail
                    go_roundw
                    case rel => exact ⟨j + 1, by go_num, by rw [hhas'.out], by omega, hT4'.out, hB4, by omega⟩
                    case measure => simp [intOf]; omega
              · obtain rfl : j = row.length := by omega
                have hha := hasAt_all (s0 := s) hlt hrow'.out hr0
                have hha' := Lib.hid hha
                clear hha
                rw [hha'.out]
                go_wp2_with fail
                go_roundw
                case rel => exact ⟨i + 1, by go_num, by omega, hB2⟩
                case measure => simp [intOf]; omega
        · go_wp2_with fail
          clear hT'
          go_loopw [10, 11] (fun hv y wr => ∃ j : Nat, y = .int .i64 j ∧ hv = .bool (hasAt own i s row j) ∧ j ≤ row.length ∧ Told (fun k => wo.heap.size ≤ k ∧ k < w2.heap.size) wr bm own [s ++ wordOf (row.take j)] (k + j) ∧ Below w1.heap.size w1 wr ∧ w2.heap.size ≤ wr.heap.size) (fun _ y _ => row.length - (intOf y).toNat)
          case atStart => exact ⟨0, rfl, rfl, Nat.zero_le _, by simpa [wordOf] using hTk'.out, hB2, hsz⟩
          case round =>
            clear hTk' hB2 hsz
            obtain ⟨j, rfl, rfl, hj, hTj, hB2, hsz⟩ := hrel
            have hTj' := Lib.hid hTj
            have e1 := (hB2.cell (World.block_lt_of_cell? w1 _ ecell'.out)).trans ecell'.out
            clear hTj
            by_cases hjl : j < row.length
            · have d1 := hcells'.out j hjl
              have d2 := (hB2.cell (World.block_lt_of_cell? w1 _ d1)).trans d1
              have hbi : bi < w1.heap.size := World.block_lt_of_cell? w1 _ d1
              obtain ⟨x, hx⟩ : ∃ x, row.getD j 0 = x := ⟨_, rfl⟩
              have hxr := hxs.out x (by rw [← hx, List.getD_eq_getElem?_getD, List.getElem?_eq_getElem hjl]; exact List.getElem_mem hjl)
              have hdw := drop_word hjl
              rw [hx] at d2 hdw
              have hst : sinceStep (s ++ wordOf (row.take j)) x = s ++ wordOf (row.take (j + 1)) := by
                unfold sinceStep
                rw [if_neg (by omega), hdw, List.append_assoc]
              have hst' := Lib.hid hst
              have hFx : Kd.F (Kd.int .i64) wr (fun k => k < w1.heap.size) (some ⟨bi, off + j, none⟩) 1 [x] := F_cells (l := [x]) (fun q hq => by
                have hq0 : q = 0 := by simpa using hq
                subst hq0
                exact d2) (by simp) hbi
              have hFx' := Lib.hid hFx
              have hcj : ¬ (ci = j) := by omega
              clear d1 d2 hx hdw hst hFx
              go_wp2_with fail
              refine (told_row _ bm (k + j) own [s ++ wordOf (row.take j)] _ hTj'.out hown'.out.cols (fun q hq => by omega) (some ⟨bi, off + j, none⟩) _ [x] _ hFx'.out (fun q hq h => by omega) (by simp; omega) (by simp) rfl (by simp [negB]; omega) (by omega)).mono ?_
              rintro e w4 ⟨go4, rfl, hF4, hT4, hm4⟩
              have hT4' : Hid (Told (fun k => wo.heap.size ≤ k ∧ k < w2.heap.size) w4 bm own [s ++ wordOf (row.take (j + 1))] (k + j + 1)) := by
                have h1 : List.zipWith sinceStep [s ++ wordOf (row.take j)] [x] = [s ++ wordOf (row.take (j + 1))] := by rw [← hst'.out]; rfl
                rw [h1] at hT4
                exact Lib.hid hT4
              have hF4b : Kd.F (Kd.slice 3 (Kd.int .i64)) w4 (fun k => wr.heap.size ≤ k) (some ⟨go4, 0, none⟩) 1 [endingOf own (s ++ wordOf (row.take (j + 1)))] := by
                have h1 : (List.zipWith sinceStep [s ++ wordOf (row.take j)] [x]).map (endingOf own) = [endingOf own (s ++ wordOf (row.take (j + 1)))] := by rw [← hst'.out]; rfl
                rw [h1] at hF4
                exact hF4
              have hB4 : Below w1.heap.size w1 w4 := hB2.trans (hm4.below (by have := hB2.size; omega) (fun q hq h => by omega))
              have hsz4 := hm4.size
              have hol2 := endingOf_len own (s ++ wordOf (row.take (j + 1)))
              obtain ⟨out, hout⟩ : ∃ out, endingOf own (s ++ wordOf (row.take (j + 1))) = out := ⟨_, rfl⟩
              rw [hout] at hF4b hol2
              have hhas : hasAt own i s row (j + 1) = anyUpto out (i : Int) out.length := by unfold hasAt anyUpto; rw [hout, List.take_length]; simp
              have hhas' := Lib.hid hhas
              obtain ⟨b5, o5, A5, c5, e5, a5, hc5, hC5⟩ := rows_get (Kd.F_now hF4b) (i := 0) (by simp)
              injection e5 with e5; injection e5 with e5 e6; subst e5; subst e6
              simp only [List.getD_cons_zero, Nat.zero_add] at a5 hc5 hC5
              have hC5' := Lib.hid hC5
              clear hF4 hT4 hF4b hm4 hout hhas hC5 e1
              go_wp2_with fail
              go_loop [10, 14] (fun hv y => ∃ q : Nat, y = .int .i64 q ∧ hv = .bool (anyUpto out (i : Int) q) ∧ q ≤ out.length) (fun _ y => out.length - (intOf y).toNat)
              case atStart => exact ⟨0, rfl, rfl, Nat.zero_le _⟩
              case round =>
                obtain ⟨q, rfl, rfl, hq⟩ := hrel
                by_cases hql : q < out.length
                · obtain ⟨b6, o6, rfl, hcell6⟩ := C_cells hC5'.out (by omega)
                  have f1 := hcell6 q hql
                  have hsu := anyUpto_succ (i := (i : Int)) hql
                  obtain ⟨z, hz⟩ : ∃ z, out.getD q 0 = z := ⟨_, rfl⟩
                  rw [hz] at f1 hsu
                  obtain ⟨b, hb⟩ : ∃ b, anyUpto out (i : Int) q = b := ⟨_, rfl⟩
                  rw [hb] at hsu ⊢
                  have hsu' := Lib.hid hsu
                  clear hcell6 hz hb hsu
                  cases b with
                  | true =>
                    go_wp2_with fail
                    go_round
                    case rel => exact ⟨q + 1, by go_num, by rw [hsu'.out]; rfl, by omega⟩
                    case measure => simp [intOf]; omega
                  | false =>
                    go_wp2_with fail
                    go_round
                    case rel => exact ⟨q + 1, by go_num, by rw [hsu'.out]; simp, by omega⟩
                    case measure => simp [intOf]; omega
                · obtain rfl : q = out.length := by omega
                  go_wp2_with fail
                  go_roundw
                  case rel => exact ⟨j + 1, by go_num, by rw [hhas'.out], by omega, hT4'.out, hB4, by omega⟩
                  case measure => simp [intOf]; omega
            · obtain rfl : j = row.length := by omega
              have hha := hasAt_all (s0 := s) hlt hrow'.out hr0
              have hha' := Lib.hid hha
              clear hha
              rw [hha'.out]
              go_wp2_with fail
              go_roundw
              case rel => exact ⟨i + 1, by go_num, by omega, hB2⟩
              case measure => simp [intOf]; omega
    · obtain rfl : i = own.length := by omega
      go_wp2_with fail
      refine (lives17_calls _).mono ?_
      rintro e w9 ⟨rfl, hb9⟩
      have hb9' := Lib.hid hb9
      clear hb9
      go_wp2_with fail
      go_ret
      exact ⟨rfl, (hb1'.out.trans (hB.mono hb1'.out.size)).trans (hb9'.out.mono (Nat.le_trans hb1'.out.size hB.size))⟩
end Go.Proofs.Ytlkiajepahkliaa
