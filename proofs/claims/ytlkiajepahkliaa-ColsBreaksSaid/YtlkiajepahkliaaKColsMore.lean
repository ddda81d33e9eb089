/- A machine's other calls that read. A machine of columns by what it was told at each place since the last -1. -/
import Derived.Test.YtlkiajepahkliaaKColsRow
import Derived.Test.YtlkiajepahkliaaKColsDef
namespace Go.Proofs.Ytlkiajepahkliaa
open Go.RowKit Go.Proofs.YtlkiajepahkliaaW.PrintWords
set_option linter.unusedVariables false
set_option linter.unusedSimpArgs false

variable (R : Nat → Prop) (bm rows : Nat) (S : Auto) (at_ : List Int) (w : World)

set_option maxHeartbeats 1000000 in
theorem colsRows_calls (hM : MachAt R w bm S at_ rows) :
    Calls Try.prog 26 #[.pointer (some ⟨bm, 0, none⟩)] w fun e w' => e = .returned (.int .i64 rows) ∧ w = w' := by
  obtain ⟨ba, ga, cap, hM⟩ := hM
  obtain ⟨c0, c1, c2, c3⟩ := hM.cells
  clear hM c3 c0 c1
  go_enter Try.func26, Try.ntmps26
  go_wp2
  go_ret
  exact ⟨rfl, rfl⟩

set_option maxHeartbeats 1000000 in
theorem colsPlaces_calls (hM : MachAt R w bm S at_ rows) :
    Calls Try.prog 31 #[.pointer (some ⟨bm, 0, none⟩)] w fun e w' => e = .returned (.int .i64 at_.length) ∧ w = w' := by
  obtain ⟨ba, ga, cap, hM⟩ := hM
  obtain ⟨c0, c1, c2, c3⟩ := hM.cells
  clear hM c3 c0 c2
  go_enter Try.func31, Try.ntmps31
  go_wp2
  go_ret
  exact ⟨rfl, rfl⟩

set_option maxHeartbeats 1000000 in
theorem colsRoom_calls (hM : MachAt R w bm S at_ rows) :
    Calls Try.prog 29 #[.pointer (some ⟨bm, 0, none⟩)] w fun e w' => e = .returned (.int .i64 at_.length) ∧ w = w' := by
  obtain ⟨ba, ga, cap, hM⟩ := hM
  obtain ⟨c0, c1, c2, c3⟩ := hM.cells
  clear hM c3 c0 c2
  go_enter Try.func29, Try.ntmps29
  go_wp2
  go_ret
  exact ⟨rfl, rfl⟩

set_option maxHeartbeats 1000000 in
theorem colsSize_calls (hM : MachAt R w bm S at_ rows) (okS : AutoOk S) :
    Calls Try.prog 30 #[.pointer (some ⟨bm, 0, none⟩)] w fun e w' => e = .returned (.int .i64 (List.length S)) ∧ w = w' := by
  obtain ⟨ba, ga, cap, hM⟩ := hM
  obtain ⟨c0, c1, c2, c3⟩ := hM.cells
  obtain ⟨g, hA⟩ := hM.auto.at
  have hA' := Lib.hid hA
  have ok' := Lib.hid okS
  clear hM c3 c1 c2 hA okS
  go_enter Try.func30, Try.ntmps30
  go_wp2_with fail
  refine (autoLen_calls ba g S _ hA'.out ok'.out).mono ?_
  rintro e w' ⟨rfl, rfl⟩
  go_wp2_with fail
  go_ret
  exact ⟨rfl, rfl⟩

theorem AtRow.ints {w : World} {g cap : Nat} {at_ : List Int} (h : AtRow w g at_ cap) : IntRow w .i64 (.slice (some ⟨g, 0, none⟩) at_.length cap) at_ :=
  ⟨_, cap, rfl, by obtain ⟨_, _, h2, _⟩ := h; exact h2, by
    rcases Nat.eq_zero_or_pos at_.length with h0 | h0
    · exact .inl h0
    · exact .inr ⟨g, 0, rfl, fun i hi => by rw [Nat.zero_add]; exact h.cell hi⟩⟩

set_option maxHeartbeats 1000000 in
theorem colsStates_calls (hM : MachAt R w bm S at_ rows) (hm : at_.length ≤ 1048576) :
    Calls Try.prog 27 #[.pointer (some ⟨bm, 0, none⟩)] w fun e w' => ∃ A c, e = .returned (.slice A at_.length c) ∧ Own w' 3 1 (.slice A at_.length c) at_.length (intCells .i64 at_) (fun k => w.heap.size ≤ k) ∧ Below w.heap.size w w' := by
  obtain ⟨ba, ga, cap, hM⟩ := hM
  obtain ⟨c0, c1, c2, c3⟩ := hM.cells
  have hr := Lib.hid hM.row.ints
  clear hM c3 c0 c2
  go_enter Try.func27, Try.ntmps27
  go_wp2_with fail
  refine (cloneInt_calls _ at_ _ hr.out (by omega)).mono ?_
  rintro e w' ⟨A, c, rfl, ho, hb⟩
  have ho' := Lib.hid ho
  have hb' := Lib.hid hb
  clear ho hb
  go_wp2_with fail
  go_ret
  exact ⟨A, c, rfl, ho'.out, hb'.out⟩
end Go.Proofs.Ytlkiajepahkliaa

namespace Go.Proofs.Ytlkiajepahkliaa
open Go.RowKit Go.Proofs.YtlkiajepahkliaaW.PrintWords
set_option linter.unusedVariables false
set_option linter.unusedSimpArgs false

/-- Columns that may be, and are few. -/
structure ColsOk (ls : List (List Int)) : Prop where
  few : ls.length ≤ 64
  short : ∀ l ∈ ls, l ≠ [] ∧ l.length ≤ 64
  odd : ls.any oddB = false

/-- What was told since the last -1, with a number more. -/
def sinceStep (s : List Int) (n : Int) : List Int := if n = -1 then [] else s ++ [IntKind.u64.wrap n]
/-- The columns that end s. -/
def endingOf (ls : List (List Int)) (s : List Int) : List Int := ((List.range ls.length).filter fun j => decide (wordOf (ls.getD j []) <:+ s)).map Int.ofNat

/-- Each place's state is the deepest node of what it was told. -/
def PlacesAt (T : TTree) (ss : List (List Int)) (at_ : List Int) : Prop := at_.length = ss.length ∧ ∀ j, j < ss.length → ∃ m : Nat, at_.getD j 0 = (m : Int) ∧ IsDeep T (ss.getD j []) m
def Told (R : Nat → Prop) (w : World) (bm : Nat) (ls ss : List (List Int)) (rows : Nat) : Prop := ∃ at_, MachAt R w bm (treeOf (ls.map wordOf)).auto at_ rows ∧ PlacesAt (treeOf (ls.map wordOf)) ss at_

theorem Told.mods {R T : Nat → Prop} {w w1 : World} {bm rows : Nat} {ls ss : List (List Int)} (h : Told R w bm ls ss rows) (hm : Mods T w w1) (hd : ∀ k, R k → ¬ T k) : Told R w1 bm ls ss rows := by
  obtain ⟨at_, h1, h2⟩ := h
  exact ⟨at_, h1.mods hm hd, h2⟩
theorem Told.below {R : Nat → Prop} {w w1 : World} {bm rows : Nat} {ls ss : List (List Int)} (h : Told R w bm ls ss rows) (hb : Below w.heap.size w w1) : Told R w1 bm ls ss rows := h.mods (T := fun _ => False) (Mods.of_below hb) (fun _ _ h => h)

theorem ColsOk.good {ls : List (List Int)} (h : ColsOk ls) : TreeGood (treeOf (ls.map wordOf)) (ls.map wordOf) 64 :=
  treeOf_good 64 (by omega) _ _ rfl (by simpa using h.few) (fun l hl => by
    obtain ⟨x, hx, rfl⟩ := List.mem_map.1 hl
    obtain ⟨h1, h2⟩ := h.short x hx
    refine ⟨fun he => h1 ?_, by rw [wordOf_length]; exact h2⟩
    have := congrArg List.length he
    rw [wordOf_length] at this
    exact List.eq_nil_of_length_eq_zero this)
theorem ColsOk.few2 {ls : List (List Int)} (h : ColsOk ls) : (treeOf (ls.map wordOf)).words.length ≤ 1048576 := by
  rw [h.good.words, List.length_map]; have := h.few; omega
theorem ColsOk.word {ls : List (List Int)} (h : ColsOk ls) {j : Nat} (hj : j < ls.length) : (treeOf (ls.map wordOf)).path ((treeOf (ls.map wordOf)).words.getD j 0).toNat = wordOf (ls.getD j []) := by
  have hw := h.good.wpaths
  have h1 := congrArg (fun l => l[j]?) hw
  unfold TTree.wpaths at h1
  have hwl : j < (treeOf (ls.map wordOf)).words.length := by rw [h.good.words, List.length_map]; exact hj
  simp only [List.getElem?_map, List.getElem?_eq_getElem hwl, List.getElem?_eq_getElem hj, Option.map_some] at h1
  injection h1 with h1
  rw [List.getD_eq_getElem?_getD, List.getElem?_eq_getElem hwl, List.getD_eq_getElem?_getD, List.getElem?_eq_getElem hj]
  exact h1
theorem ColsOk.ending {ls : List (List Int)} (h : ColsOk ls) (s : List Int) : (treeOf (ls.map wordOf)).ending s = endingOf ls s := by
  unfold TTree.ending endingOf
  rw [h.good.words, List.length_map]
  congr 1
  refine List.filter_congr fun j hj => ?_
  rw [List.mem_range] at hj
  rw [h.word hj]
theorem ColsOk.ending_nil {ls : List (List Int)} (h : ColsOk ls) : endingOf ls [] = [] := by
  unfold endingOf
  rw [List.filter_eq_nil_iff.2, List.map_nil]
  intro j hj
  rw [List.mem_range] at hj
  simp only [decide_eq_true_eq]
  intro hs
  have h1 := h.short (ls.getD j []) (by rw [List.getD_eq_getElem?_getD, List.getElem?_eq_getElem hj]; exact List.getElem_mem _)
  have h2 := congrArg List.length (List.suffix_nil.1 hs)
  rw [wordOf_length] at h2
  exact h1.1 (List.eq_nil_of_length_eq_zero h2)

theorem mem_endingOf {ls : List (List Int)} {s : List Int} {j : Nat} (hj : j < ls.length) : (j : Int) ∈ endingOf ls s ↔ wordOf (ls.getD j []) <:+ s := by
  unfold endingOf
  simp only [List.mem_map, List.mem_filter, List.mem_range, decide_eq_true_eq]
  constructor
  · rintro ⟨i, ⟨h1, h2⟩, h3⟩
    have : i = j := Int.ofNat.inj h3
    subst this; exact h2
  · intro h; exact ⟨j, ⟨hj, h⟩, rfl⟩

theorem step_deep {ls : List (List Int)} (h : ColsOk ls) {s : List Int} {m : Nat} (hm : IsDeep (treeOf (ls.map wordOf)) s m) (n : Int) :
    (∃ m' : Nat, stepAt (treeOf (ls.map wordOf)).auto m n = (m' : Int) ∧ IsDeep (treeOf (ls.map wordOf)) (sinceStep s n) m') ∧ stepOut (treeOf (ls.map wordOf)).auto m n = endingOf ls (sinceStep s n) := by
  unfold stepAt stepOut sinceStep
  by_cases hn : n = -1
  · rw [if_pos hn, if_pos hn, if_pos hn]
    exact ⟨⟨0, rfl, isDeep_nil h.good.wf⟩, h.ending_nil.symm⟩
  · rw [if_neg hn, if_neg hn, if_neg hn]
    obtain ⟨h1, h2⟩ := auto_next h.good.wf (IntKind.u64.wrap n) hm
    obtain ⟨m', hm'⟩ : ∃ m' : Nat, (treeOf (ls.map wordOf)).auto.next m (IntKind.u64.wrap n) = m' := ⟨((treeOf (ls.map wordOf)).auto.next m (IntKind.u64.wrap n)).toNat, by omega⟩
    rw [hm', Int.toNat_natCast] at h2
    rw [hm']
    exact ⟨⟨m', rfl, h2⟩, by rw [auto_ends h.good.wf h.few2 h2, h.ending]⟩

theorem next_range {ls : List (List Int)} (h : ColsOk ls) (a p : Int) (h0 : 0 ≤ a) (h1 : a < List.length (treeOf (ls.map wordOf)).auto) : 0 ≤ (treeOf (ls.map wordOf)).auto.next a p ∧ (treeOf (ls.map wordOf)).auto.next a p < List.length (treeOf (ls.map wordOf)).auto := by
  obtain ⟨m, rfl⟩ : ∃ m : Nat, a = m := ⟨a.toNat, by omega⟩
  have hl := auto_len h.good.wf
  have hd : IsDeep (treeOf (ls.map wordOf)) ((treeOf (ls.map wordOf)).path m) m := ⟨by omega, List.suffix_refl _, fun j _ hj => hj.length_le⟩
  obtain ⟨h2, h3⟩ := auto_next h.good.wf p hd
  exact ⟨h2, by have := h3.1; omega⟩

theorem told_new (A : Option Addr) (c : Nat) (ls : List (List Int)) (places : Nat) (w : World) (hr : (Kd.slice 3 (Kd.int .i64)).C w A ls.length ls) (hc : ls.length ≤ c) (h : ColsOk ls) (hp : places ≤ 4096) :
    Calls Try.prog 20 #[.slice A ls.length c, .int .i64 places] w fun e w' => ∃ bm, e = .returned (.tuple #[.pointer (some ⟨bm, 0, none⟩), .int .i64 0]) ∧
      Told (fun k => w.heap.size ≤ k ∧ k < w'.heap.size) w' bm ls (List.replicate places []) 0 ∧ Below w.heap.size w w' := by
  refine (colsNew_good A c ls places w hr hc h.few (fun l hl => (h.short l hl).2) hp h.odd).mono ?_
  rintro e w' ⟨bm, rfl, hM, hb⟩
  refine ⟨bm, rfl, ⟨_, hM, by simp, fun j hj => ⟨0, ?_, ?_⟩⟩, hb⟩
  · rw [List.length_replicate] at hj; simp [hj]
  · rw [List.length_replicate] at hj
    have : (List.replicate places ([] : List Int)).getD j [] = [] := by simp [hj]
    rw [this]
    exact isDeep_nil h.good.wf

theorem told_row (R : Nat → Prop) (bm rows : Nat) (ls ss : List (List Int)) (w : World) (hT : Told R w bm ls ss rows) (h : ColsOk ls) (hRlt : ∀ k, R k → k < w.heap.size)
    (A : Option Addr) (c : Nat) (l : List Int) (ok : Nat → Prop) (hv : Kd.F (Kd.int .i64) w ok A l.length l) (hok : ∀ k, ok k → ¬ R k) (hc : l.length ≤ c) (hm : ss.length ≤ 4096) (hlen : l.length = ss.length) (hneg : l.any negB = false) (hrows : rows ≤ 1048576) :
    Calls Try.prog 21 #[.pointer (some ⟨bm, 0, none⟩), .slice A l.length c] w fun e w' => ∃ go, e = .returned (.tuple #[.slice (some ⟨go, 0, none⟩) l.length l.length, .int .i64 0]) ∧
      Kd.F (Kd.slice 3 (Kd.int .i64)) w' (fun k => w.heap.size ≤ k) (some ⟨go, 0, none⟩) l.length ((List.zipWith sinceStep ss l).map (endingOf ls)) ∧ Told R w' bm ls (List.zipWith sinceStep ss l) (rows + 1) ∧ Mods (fun k => R k ∧ k < w.heap.size) w w' := by
  obtain ⟨at_, hM, hp1, hp2⟩ := hT
  have hal := auto_len h.good.wf
  refine (colsRow_good R bm rows _ at_ w hM (auto_ok h.good.wf h.few2) (fun a ha => ?_) (next_range h) A c l ok hv hok hc (by omega) (by omega) hneg hrows hRlt).mono ?_
  · obtain ⟨j, hj, rfl⟩ := List.mem_iff_getElem.1 ha
    obtain ⟨m, h1, h2⟩ := hp2 j (by omega)
    rw [List.getD_eq_getElem?_getD, List.getElem?_eq_getElem hj] at h1
    simp only [Option.getD_some] at h1
    have := h2.1
    rw [h1]; omega
  · rintro e w' ⟨go, rfl, hF, hM', hmod⟩
    have hget : ∀ j, j < ss.length → ∃ (m : Nat) (n : Int), at_[j]? = some (m : Int) ∧ l[j]? = some n ∧ ss[j]? = some (ss.getD j []) ∧ IsDeep (treeOf (ls.map wordOf)) (ss.getD j []) m := fun j hj => by
      obtain ⟨m, h1, h2⟩ := hp2 j hj
      have hj1 : j < at_.length := by omega
      have hj2 : j < l.length := by omega
      refine ⟨m, l[j], ?_, List.getElem?_eq_getElem hj2, ?_, h2⟩
      · rw [List.getElem?_eq_getElem hj1]
        rw [List.getD_eq_getElem?_getD, List.getElem?_eq_getElem hj1] at h1
        simpa using h1
      · rw [List.getD_eq_getElem?_getD, List.getElem?_eq_getElem hj]; rfl
    have hout : List.zipWith (stepOut (treeOf (ls.map wordOf)).auto) at_ l = (List.zipWith sinceStep ss l).map (endingOf ls) := by
      apply List.ext_getElem?
      intro j
      by_cases hj : j < ss.length
      · obtain ⟨m, n, h1, h2, h3, h4⟩ := hget j hj
        rw [List.getElem?_zipWith, h1, h2, List.getElem?_map, List.getElem?_zipWith, h3, h2]
        simp only [Option.map_some]
        rw [(step_deep h h4 n).2]
      · rw [List.getElem?_eq_none (by simp [List.length_zipWith]; omega), List.getElem?_eq_none (by simp [List.length_zipWith]; omega)]
    rw [hout] at hF
    refine ⟨go, rfl, hF, ⟨_, hM', by simp [List.length_zipWith]; omega, fun j hj => ?_⟩, hmod⟩
    have hj2 : j < ss.length := by simp [List.length_zipWith] at hj; omega
    obtain ⟨m, n, h1, h2, h3, h4⟩ := hget j hj2
    obtain ⟨⟨m', e1, e2⟩, _⟩ := step_deep h h4 n
    have e3 : (List.zipWith sinceStep ss l).getD j [] = sinceStep (ss.getD j []) n := by
      rw [List.getD_eq_getElem?_getD, List.getElem?_zipWith, h3, h2]; rfl
    refine ⟨m', ?_, ?_⟩
    · rw [List.getD_eq_getElem?_getD, List.getElem?_zipWith, h1, h2]
      exact e1
    · rw [e3]; exact e2
end Go.Proofs.Ytlkiajepahkliaa
