/- A machine of columns as it lies in memory; New. cols.New, of columns that may be. -/
import Derived.Test.YtlkiajepahkliaaKReads
import Derived.Test.YtlkiajepahkliaaKTreeWf
import Derived.Test.YtlkiajepahkliaaKAutoNew
import Derived.Deep.RegionWith
namespace Go.Proofs.Ytlkiajepahkliaa
open Go.RowKit Go.Proofs.YtlkiajepahkliaaW.PrintWords
set_option linter.unusedVariables false
set_option linter.unusedSimpArgs false

/-- A row of places' states in a block of ints, of which the first are in use. -/
def AtRow (w : World) (g : Nat) (at_ : List Int) (cap : Nat) : Prop :=
  ∃ cur : Array Value, w.heap[g]? = some (.cells cur 3 (0, 0)) ∧ at_.length ≤ cap ∧ cap ≤ cur.size ∧ cap ≤ 1048576 ∧ ∀ j, j < at_.length → cur[j]? = some (.int .i64 (at_.getD j 0))
theorem AtRow.cell {w : World} {g cap : Nat} {at_ : List Int} (h : AtRow w g at_ cap) {j : Nat} (hj : j < at_.length) : w.cell? ⟨g, j, none⟩ = some (.int .i64 (at_.getD j 0)) := by
  obtain ⟨cur, h1, _, _, _, h5⟩ := h
  rw [cell_of_row w g j _ _ (0, 0) h1]
  exact h5 j hj
theorem AtRow.frozen {w : World} {g cap : Nat} {at_ : List Int} (h : AtRow w g at_ cap) (j : Nat) : w.frozen? ⟨g, j, none⟩ = false := by
  obtain ⟨cur, h1, _⟩ := h
  simp [World.frozen?, h1]
theorem AtRow.lt {w : World} {g cap : Nat} {at_ : List Int} (h : AtRow w g at_ cap) : g < w.heap.size := by
  obtain ⟨cur, h1, _⟩ := h
  exact (Array.getElem?_eq_some_iff.1 h1).1
theorem AtRow.move {w w1 : World} {g cap : Nat} {at_ : List Int} (h : AtRow w g at_ cap) (hm : w1.heap[g]? = w.heap[g]?) : AtRow w1 g at_ cap := by
  obtain ⟨cur, h1, h2⟩ := h
  exact ⟨cur, hm.trans h1, h2⟩
theorem AtRow.set {w : World} {g cap : Nat} {at_ : List Int} (h : AtRow w g at_ cap) {j : Nat} (hj : j < at_.length) (x : Int) : AtRow (w.setCell ⟨g, j, none⟩ (.int .i64 x)) g (at_.set j x) cap := by
  obtain ⟨cur, h1, h2, h3, h4, h5⟩ := h
  refine ⟨cur.setIfInBounds j (.int .i64 x), by simp [World.setCell, Array.getElem?_modify, h1], by simpa using h2, by simpa using h3, h4, fun q hq => ?_⟩
  rw [List.length_set] at hq
  by_cases hjq : j = q
  · subst hjq
    have : j < cur.size := by omega
    simp [Array.getElem?_setIfInBounds, this, hj]
  · rw [Array.getElem?_setIfInBounds_ne hjq, h5 q hq]
    simp [hjq]

/-- A machine: its own block, its automaton, its places' states. -/
structure MachIn (R : Nat → Prop) (w : World) (bm ba ga cap : Nat) (S : Auto) (at_ : List Int) (rows : Nat) : Prop where
  block : w.heap[bm]? = some (.cells #[.pointer (some ⟨ba, 0, none⟩), .slice (some ⟨ga, 0, none⟩) at_.length cap, .int .i64 rows] 89 (0, 0))
  auto : AutoIn (fun k => R k ∧ k ≠ bm ∧ k ≠ ga) w ba S
  row : AtRow w ga at_ cap
  ne : bm ≠ ga
  bm : R bm
  ga : R ga
def MachAt (R : Nat → Prop) (w : World) (bm : Nat) (S : Auto) (at_ : List Int) (rows : Nat) : Prop := ∃ ba ga cap, MachIn R w bm ba ga cap S at_ rows

theorem MachAt.mods {R T : Nat → Prop} {w w1 : World} {bm rows : Nat} {S : Auto} {at_ : List Int} (h : MachAt R w bm S at_ rows) (hm : Mods T w w1) (hd : ∀ k, R k → ¬ T k) : MachAt R w1 bm S at_ rows := by
  obtain ⟨ba, ga, cap, h⟩ := h
  exact ⟨ba, ga, cap, (hm.block bm (Array.getElem?_eq_some_iff.1 h.block).1 (hd bm h.bm)).trans h.block, h.auto.mods hm (fun k hk => hd k hk.1), h.row.move (hm.block ga h.row.lt (hd ga h.ga)), h.ne, h.bm, h.ga⟩
theorem MachAt.below {R : Nat → Prop} {w w1 : World} {bm rows : Nat} {S : Auto} {at_ : List Int} (h : MachAt R w bm S at_ rows) (hb : Below w.heap.size w w1) : MachAt R w1 bm S at_ rows := h.mods (T := fun _ => False) (Mods.of_below hb) (fun _ _ h => h)
theorem MachAt.mono {R R' : Nat → Prop} {w : World} {bm rows : Nat} {S : Auto} {at_ : List Int} (h : MachAt R w bm S at_ rows) (hr : ∀ k, k < w.heap.size → R k → R' k) : MachAt R' w bm S at_ rows := by
  obtain ⟨ba, ga, cap, h⟩ := h
  exact ⟨ba, ga, cap, h.block, h.auto.mono (fun k hk h => ⟨hr k hk h.1, h.2⟩), h.row, h.ne, hr bm (Array.getElem?_eq_some_iff.1 h.block).1 h.bm, hr ga h.row.lt h.ga⟩

/-- A column as a word. -/
def wordOf (l : List Int) : List Int := l.map fun n => IntKind.u64.wrap n
theorem wordOf_length (l : List Int) : (wordOf l).length = l.length := by simp [wordOf]

theorem infoPixelC : (Try.prog.info? 73).map (fun i => (i.zero, i.size, i.bytes)) = some (some (.int .u64 0), 1, 8) := by kernel_rfl
theorem infoIntC : (Try.prog.info? 3).map (fun i => (i.zero, i.size, i.bytes)) = some (some (.int .i64 0), 1, 8) := by kernel_rfl
theorem ret_pe {p : Option Addr} {a a' : Int} (h : a = a') : Ending.returned (.tuple #[.pointer p, .int .i64 a]) = .returned (.tuple #[.pointer p, .int .i64 a']) := by rw [h]

set_option maxRecDepth 100000 in
set_option maxHeartbeats 2000000 in
theorem colsNew_bad (A : Option Addr) (c : Nat) (ls : List (List Int)) (places : Int) (w : World) (hr : (Kd.slice 3 (Kd.int .i64)).C w A ls.length ls) (hc : ls.length ≤ c) (hm : ls.length ≤ 1099511627776) (hl : ∀ l ∈ ls, l.length ≤ 1099511627776)
    (hbad : placesB places = false ∨ ls.any oddB = true) :
    Calls Try.prog 20 #[.slice A ls.length c, .int .i64 places] w fun e w' => e = .returned (.tuple #[.pointer none, .int .i64 1]) ∧ w = w' := by
  have hr' := Lib.hid hr
  have hl' := Lib.hid hl
  clear hr hl
  by_cases hp : placesB places = true
  · have ho := Lib.hid (hbad.resolve_left (by rw [hp]; simp))
    have hp' := Lib.hid hp
    clear hp hbad
    go_enter Try.func20, Try.ntmps20
    go_wp2_with fail
    refine (colsMay_calls places _).mono ?_
    rintro e w' ⟨rfl, rfl⟩
    rw [hp'.out]
    go_wp2_with fail
    refine (anyOdd_calls A c ls _ hr'.out hc hm hl'.out).mono ?_
    rintro e w' ⟨rfl, rfl⟩
    rw [ho.out]
    go_wp2_with fail
    go_ret2
    exact ⟨rfl, rfl⟩
  · have hp' : Hid (placesB places = false) := Lib.hid (by simpa using hp)
    clear hp hbad
    go_enter Try.func20, Try.ntmps20
    go_wp2_with fail
    refine (colsMay_calls places _).mono ?_
    rintro e w' ⟨rfl, rfl⟩
    rw [hp'.out]
    go_wp2_with fail
    go_ret2
    exact ⟨rfl, rfl⟩
end Go.Proofs.Ytlkiajepahkliaa

namespace Go.Proofs.Ytlkiajepahkliaa
open Go.RowKit Go.Proofs.YtlkiajepahkliaaW.PrintWords
set_option linter.unusedVariables false
set_option linter.unusedSimpArgs false

theorem madeRow {w : World} {n g : Nat} (hn : n ≤ 4096) (h : w.heap[g]? = some (.cells (madeCells #[.int .i64 0] n) 3 (0, 0))) : AtRow w g (List.replicate n 0) n := by
  refine ⟨_, h, by simp, by simp [size_madeCells], by omega, fun j hj => ?_⟩
  rw [List.length_replicate] at hj
  have hz : j % 1 = 0 := Nat.mod_one j
  simp [madeCells, hj, hz]

theorem mach_of {R : Nat → Prop} {w' : World} {bm ba ga places : Nat} {S : Auto} (hblock : w'.heap[bm]? = some (.cells #[.pointer (some ⟨ba, 0, none⟩), .slice (some ⟨ga, 0, none⟩) places places, .int .i64 0] 89 (0, 0)))
    (hrow : w'.heap[ga]? = some (.cells (madeCells #[.int .i64 0] places) 3 (0, 0))) (hauto : AutoIn (fun k => R k ∧ k ≠ bm ∧ k ≠ ga) w' ba S) (hne : bm ≠ ga) (hbm : R bm) (hga : R ga) (hp : places ≤ 4096) : MachAt R w' bm S (List.replicate places 0) 0 :=
  ⟨ba, ga, places, by rw [List.length_replicate]; exact hblock, hauto, madeRow hp hrow, hne, hbm, hga⟩

theorem drop_word {l : List Int} {i : Nat} (h : i < l.length) : wordOf (l.take (i + 1)) = wordOf (l.take i) ++ [IntKind.u64.wrap (l.getD i 0)] := by
  unfold wordOf
  rw [List.take_succ_eq_append_getElem h, List.map_append]
  simp [h]

set_option maxRecDepth 100000 in
set_option maxHeartbeats 4000000 in
theorem colsNew_good (A : Option Addr) (c : Nat) (ls : List (List Int)) (places : Nat) (w : World) (hr : (Kd.slice 3 (Kd.int .i64)).C w A ls.length ls) (hc : ls.length ≤ c) (hm : ls.length ≤ 64) (hl : ∀ l ∈ ls, l.length ≤ 64)
    (hp : places ≤ 4096) (hodd : ls.any oddB = false) :
    Calls Try.prog 20 #[.slice A ls.length c, .int .i64 places] w fun e w' => ∃ bm, e = .returned (.tuple #[.pointer (some ⟨bm, 0, none⟩), .int .i64 0]) ∧
      MachAt (fun k => w.heap.size ≤ k ∧ k < w'.heap.size) w' bm (treeOf (ls.map wordOf)).auto (List.replicate places 0) 0 ∧ Below w.heap.size w w' := by
  have hr' := Lib.hid hr
  have hl' := Lib.hid hl
  have hpl : placesB places = true := decide_eq_true (by omega)
  have hpl' := Lib.hid hpl
  have hodd' := Lib.hid hodd
  have hne : ∀ l ∈ ls, l ≠ [] := fun l hl h => by
    have := List.any_eq_false.1 hodd l hl
    rw [h] at this
    exact this rfl
  have hwl : ∀ n, ∀ l ∈ (ls.map wordOf).take n, l ≠ [] ∧ l.length ≤ 64 := fun n l h => by
    obtain ⟨x, hx, rfl⟩ := List.mem_map.1 (List.mem_of_mem_take h)
    refine ⟨fun he => hne x hx ?_, by rw [wordOf_length]; exact hl x hx⟩
    have := congrArg List.length he
    rw [wordOf_length] at this
    exact List.eq_nil_of_length_eq_zero this
  have hwl' := Lib.hid hwl
  have hgood : ∀ n, TreeGood (treeOf ((ls.map wordOf).take n)) ((ls.map wordOf).take n) 64 := fun n => treeOf_good 64 (by omega) _ _ rfl (by simp; omega) (hwl n)
  have hgood' := Lib.hid hgood
  have hne' := Lib.hid hne
  obtain ⟨i1, hi1, hz1, hzs1, hzb1⟩ := info_parts infoPixelC
  obtain ⟨i2, hi2, hz2, hzs2, hzb2⟩ := info_parts infoIntC
  clear hr hl hpl hodd hne hwl hgood
  go_enter Try.func20, Try.ntmps20
  go_wp2_with fail
  refine (colsMay_calls places _).mono ?_
  rintro e w' ⟨rfl, rfl⟩
  rw [hpl'.out]
  go_wp2_with fail
  refine (anyOdd_calls A c ls _ hr'.out hc (by omega) (fun l h => by have := hl'.out l h; omega)).mono ?_
  rintro e w' ⟨rfl, rfl⟩
  rw [hodd'.out]
  go_wp2_with fail
  refine (treeNew_calls _).mono ?_
  rintro e w1 ⟨bt, col, rfl, hT1, hcol1, hb1⟩
  have hT1' := Lib.hid hT1
  have hcol1' := Lib.hid hcol1
  have hb1' := Lib.hid hb1
  clear hT1 hcol1 hb1
  go_wp2_with fail
  go_loopw [24] (fun x wr => ∃ (i : Nat) (col : Nat → Option Nat), x = .int .i64 i ∧ i ≤ ls.length ∧ TreeAt wr bt (treeOf ((ls.map wordOf).take i)) col ∧ (∀ k, k < w.heap.size → col k = none) ∧ Below w.heap.size w wr) (fun x _ => ls.length - (intOf x).toNat)
  case atStart => exact ⟨0, col, rfl, Nat.zero_le _, by simpa [treeOf] using hT1'.out, hcol1'.out, hb1'.out⟩
  case round =>
    obtain ⟨i, ci, rfl, hi, hT, hcol, hB⟩ := hrel
    have hT' := Lib.hid hT
    have hcol' := Lib.hid hcol
    clear hT hcol
    by_cases hlt : i < ls.length
    · obtain ⟨b, off, A2, c2, rfl, hcell, hc2, hrow⟩ := rows_get (Kd.C_below hr'.out hB) hlt
      have hmem : ls.getD i [] ∈ ls := by rw [List.getD_eq_getElem?_getD, List.getElem?_eq_getElem hlt]; exact List.getElem_mem hlt
      have hlen := hl'.out _ hmem
      have hwmem : wordOf (ls.getD i []) ∈ (ls.map wordOf).take ls.length := by rw [List.take_of_length_le (by simp)]; exact List.mem_map.2 ⟨_, hmem, rfl⟩
      have hwgood := hwl'.out _ _ hwmem
      have htk : (ls.map wordOf).take (i + 1) = (ls.map wordOf).take i ++ [wordOf (ls.getD i [])] := by
        rw [List.take_succ_eq_append_getElem (by simpa using hlt)]
        simp [hlt]
      have hput := treeOf_put 64 (by omega) (ls := (ls.map wordOf).take i) (x := wordOf (ls.getD i [])) (by simp; omega) (hwl'.out i) hwgood
      obtain ⟨l, hle⟩ : ∃ l, ls.getD i [] = l := ⟨_, rfl⟩
      rw [hle] at hcell hc2 hrow hlen hwgood htk hput
      have hrow' := Lib.hid hrow
      have htk' := Lib.hid htk
      have hput' := Lib.hid hput
      have hwgood' := Lib.hid hwgood
      have hl0 : 0 < l.length := by
        have := hwgood.1
        rcases Nat.eq_zero_or_pos l.length with h | h
        · exact absurd (List.eq_nil_of_length_eq_zero (by rw [wordOf_length]; exact h)) this
        · exact h
      obtain ⟨b3, off3, rfl, hcells3⟩ := C_cells hrow hl0
      have hcells3' := Lib.hid hcells3
      clear hrow hwmem hwgood htk hput hmem hle hcells3
      obtain ⟨wo, rfl⟩ : ∃ wo : World, wo = wr := ⟨_, rfl⟩
      go_wp2_with fail
      go_loopw [10, 30] (fun v y wr => ∃ (j : Nat) (A : Option Addr) (c : Nat), y = .int .i64 j ∧ v = .slice A j c ∧ j ≤ l.length ∧ Own wr 73 1 (.slice A j c) j (intCells .u64 (wordOf (l.take j))) (fun k => wo.heap.size ≤ k) ∧ Below wo.heap.size wo wr) (fun _ y _ => l.length - (intOf y).toNat)
      case atStart => exact ⟨0, none, 0, rfl, rfl, Nat.zero_le _, Own.nil _ _ _ _, Below.refl _ _⟩
      case round =>
        obtain ⟨j, A4, c4, rfl, rfl, hj, hown, hB2⟩ := hrel
        have hown' := Lib.hid hown
        clear hown
        by_cases hlt2 : j < l.length
        · have d1 := hcells3'.out j hlt2
          obtain ⟨x, hx⟩ : ∃ x, l.getD j 0 = x := ⟨_, rfl⟩
          rw [hx] at d1
          have d2 := (hB2.cell (World.block_lt_of_cell? wo _ d1)).trans d1
          have hdw := Lib.hid (drop_word hlt2)
          have hx' := Lib.hid hx
          clear d1 hx
          go_wp2_with (at_builtin; refine wpList_append_own_at _ rfl (.tmp 34) (.tmp 37) 27 rfl 0 73 i1 (.int .u64 0) 1 8 Try.underlying27 hi1 hz1 hzs1 hzb1 rfl (by decide) _ j _ rfl (hown'.out.1.alloc _) ⟨wr.heap.size, 0, none⟩ 1 1 [.int .u64 (IntKind.u64.wrap x)] rfl rfl (cell_one_new wr _ _) (int_one _ _) (by unfold maxLen; omega) (by omega) (Nat.zero_le _) ?_; intro v7 w7 ho7 hg7 hnn hat7; clear hnn; obtain ⟨A7, c7, hv7⟩ := ownsRow_slice ho7; subst hv7)
          have hB7 : Below wo.heap.size wo w7 := (hB2.alloc hB2.size _).grown hg7 (by simp; have := hB2.size; omega) hown'.out.2
          have hown7 : Own w7 73 1 (.slice A7 (j + 1) c7) (j + 1) (intCells .u64 (wordOf (l.take (j + 1)))) (fun k => wo.heap.size ≤ k) := by
            rw [hdw.out, hx'.out]
            refine ⟨by simpa [intCells] using ho7, fun k hk => ?_⟩
            rcases hat7 with h9 | h9
            · exact hown'.out.2 k (h9 ▸ hk)
            · rw [h9] at hk; injection hk with hk; have := hB2.size; simp at hk; omega
          have hown7' := Lib.hid hown7
          clear hown7 ho7 hg7 hat7
          go_wp2_with fail
          go_roundw
          case rel => exact ⟨j + 1, A7, c7, by go_num, rfl, by omega, hown7'.out, hB7⟩
          case measure => simp [intOf]; omega
        · obtain rfl : j = l.length := by omega
          have hown2 := hown'.out
          rw [List.take_length] at hown2
          have hw0 : (wordOf l).length = l.length := wordOf_length l
          have hrowW : IntRow wr .u64 (.slice A4 l.length c4) (wordOf l) := by
            rw [← hw0] at hown2 ⊢
            exact IntRow.of_own hown2
          have hrowW' := Lib.hid hrowW
          have hTr := Lib.hid (hT'.out.below hB2)
          have hg := hgood'.out i
          have hg' := Lib.hid hg
          have hfar : ∀ b off n c, Value.slice A4 l.length c4 = .slice (some ⟨b, off, none⟩) n c → ci b = none := fun b off n c he => by
            have h1 : wo.heap.size ≤ b := hown2.2 b (by rw [he]; rfl)
            have h2 : ¬ ci b ≠ none := fun h => by have := hT'.out.lt b h; omega
            exact Decidable.of_not_not h2
          have hfar' := Lib.hid hfar
          clear hown2 hrowW hg hfar
          go_wp2_with fail
          refine (put_calls bt _ ci (.slice A4 l.length c4) (wordOf l) _ hTr.out hg'.out.wf.ok hrowW'.out (by rw [wordOf_length]; omega) (by rw [hg'.out.words]; simp; omega) hfar'.out).mono ?_
          rintro e w8 ⟨c8, rfl, hT8, hc8, hM8⟩
          rw [hput'.out]
          rw [← treeOf_snoc, ← htk'.out] at hT8
          have hT8' := Lib.hid hT8
          have hcol8 : Hid (∀ k, k < w.heap.size → c8 k = none) := Lib.hid (fun k hk => by rw [hc8 k (Nat.lt_of_lt_of_le hk (Nat.le_trans hB.size hB2.size)), hcol'.out k hk])
          have hB8 : Below w.heap.size w w8 := (hB.trans (hB2.mono hB.size)).trans (hM8.below (Nat.le_trans hB.size hB2.size) (fun k hk h => h (hcol'.out k hk)))
          clear hT8 hc8 hM8
          go_wp2_with fail
          go_roundw
          case rel => exact ⟨i + 1, c8, by go_num, by omega, hT8'.out, hcol8.out, hB8⟩
          case measure => simp [intOf]; omega
    · obtain rfl : i = ls.length := by omega
      have hg := hgood'.out ls.length
      have hfull : (ls.map wordOf).take ls.length = ls.map wordOf := List.take_of_length_le (by simp)
      rw [hfull] at hg
      have hTf := hT'.out
      rw [hfull] at hTf
      have hTf' := Lib.hid hTf
      have hg' := Lib.hid hg
      have hmk := fun W => run_make (P := Try.prog) W 31 3 i2 _ Try.underlying31 hi2 hz2 .i64 .i64 places places (by omega) (by omega) (by rw [hzb2]; omega) (by omega)
      rw [hzs2] at hmk
      simp only [Value.cells, Nat.mul_one] at hmk
      clear hfull hTf hg
      have k1 : Below wr.heap.size wr wr.drew := (Below.refl _ _).drew
      have k2 : Below wr.heap.size wr (wr.alloc (.cells (madeCells #[.int .i64 0] places) 3)).drew := ((Below.refl _ _).alloc (Nat.le_refl _) _).drew
      have k1' := Lib.hid k1
      have k2' := Lib.hid k2
      have hwle : (treeOf (ls.map wordOf)).words.length ≤ 1048576 := by rw [hg'.out.words]; simp; omega
      clear k1 k2
      go_wp2_with fail
      go_region_with ((go_at_call 52; refine (autoNew_calls bt (treeOf (ls.map wordOf)) ci _ (hTf'.out.below (by first | exact k1'.out | exact k2'.out)) hg'.out.wf hwle).mono ?_; rintro e w5 ⟨ba, rfl, hA, hb5⟩; have hA' := Lib.hid hA; have hb5' := Lib.hid hb5; clear hA hb5))
      all_goals go_wp2_with fail
      all_goals go_ret2
      all_goals refine ⟨_, rfl, ?_, ?_⟩
      · have hs5 : w.heap.size ≤ w5.heap.size := Nat.le_trans hB.size hb5'.out.size
        refine mach_of (heap_alloc2_new _ _ _) (heap_alloc2_old _ _ _) (((hA'.out.below ((Below.refl _ _).alloc (Nat.le_refl _) _)).below ((Below.refl _ _).alloc (Nat.le_refl _) _)).mono (fun k hk h => ?_)) (by omega) ?_ ?_ hp
        · obtain ⟨h1, h2⟩ := h
          have h3 : wr.heap.size ≤ k := h1
          have := hB.size
          simp only [World.size_alloc]
          omega
        · simp only [World.size_alloc]; omega
        · simp only [World.size_alloc]; omega
      · exact ((hB.trans (((Below.refl _ _).drew.trans hb5'.out).mono hB.size)).alloc (Nat.le_trans hB.size hb5'.out.size) _).alloc (by simp only [World.size_alloc]; have := hB.size; have := hb5'.out.size; simp at this; omega) _
      · have hsz5 := hb5'.out.size
        have hBs := hB.size
        simp at hsz5
        have hrow5 : w5.heap[wr.heap.size]? = some (.cells (madeCells #[.int .i64 0] places) 3 (0, 0)) := (hb5'.out.block _ (by simp)).trans (World.alloc_heap_new wr _)
        refine mach_of (World.alloc_heap_new _ _) ((Below.heap_alloc _ _ _ (by omega)).trans hrow5) ((hA'.out.below ((Below.refl _ _).alloc (Nat.le_refl _) _)).mono (fun k hk h => ?_)) (by omega) ?_ ?_ hp
        · obtain ⟨h1, h2⟩ := h
          simp at h1
          simp only [World.size_alloc]
          omega
        · simp only [World.size_alloc]; omega
        · simp only [World.size_alloc]; omega
      · have hsz5 := hb5'.out.size
        simp at hsz5
        have hBs := hB.size
        exact (hB.trans ((((Below.refl _ _).alloc (Nat.le_refl _) _).drew.trans (hb5'.out.mono (by simp))).mono hB.size)).alloc (by omega) _
end Go.Proofs.Ytlkiajepahkliaa
