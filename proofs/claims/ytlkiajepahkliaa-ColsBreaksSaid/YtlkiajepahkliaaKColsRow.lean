/- cols.Row: the columns that end with a row. -/
import Derived.Test.YtlkiajepahkliaaKColsDef
import Derived.Test.YtlkiajepahkliaaWTab
namespace Go.Proofs.Ytlkiajepahkliaa
open Go.RowKit Go.Proofs.YtlkiajepahkliaaW.PrintWords Go.Proofs.YtlkiajepahkliaaW.PrintLast
set_option linter.unusedVariables false
set_option linter.unusedSimpArgs false

def row9_T : Bool × List (List Nat × List Nat) := (true, [([], []), ([0], [0]), ([1], [1]), ([2], [2]), ([], []), ([], []), ([5], [5]), ([6], [6]), ([7], [7]), ([], []), ([9], [9]), ([10], [10]), ([11], [11]), ([], []), ([12, 13], [12, 13]), ([14], [14]), ([], []), ([16], [16]), ([8, 15, 17], [8, 15, 17]), ([3, 4, 0, 1, 2, 3, 4, 5, 6, 7, 8, 9, 10, 11, 12, 13, 14, 15, 16, 17, 18], [3, 4]), ([19, 18, 18, 0, 1, 2, 3, 4, 5, 6, 7, 8, 9, 10, 11, 12, 13, 14, 15, 16, 17, 18], [18, 19])])
def row9_B : List Nat := [0, 1, 3, 7, 0, 0, 32, 96, 224, 0, 512, 1536, 3584, 0, 15872, 32256, 0, 65536, 262112, 524287, 1048575]
theorem row9_tab : rtab .any (opsOf Try.f21 9) = row9_T := by kernel_rfl
theorem row9_bits : waitsOk row9_T.2 row9_B = true := by kernel_rfl
def row10_T : Bool × List (List Nat × List Nat) := (true, [([], []), ([], []), ([], []), ([2], [2]), ([3], [3]), ([4], [4]), ([], []), ([6], [6]), ([7], [7]), ([8], [8]), ([], []), ([9, 10], [9, 10]), ([11], [11]), ([5, 12], [5, 12]), ([0, 1, 0, 1, 2, 3, 4, 5, 6, 7, 8, 9, 10, 11, 12, 13], [0, 1]), ([14, 13, 13, 0, 1, 2, 3, 4, 5, 6, 7, 8, 9, 10, 11, 12, 13], [13, 14])])
def row10_B : List Nat := [0, 0, 0, 4, 12, 28, 0, 64, 192, 448, 0, 1984, 4032, 8188, 16383, 32767]
theorem row10_tab : rtab .any (opsOf Try.f21 10) = row10_T := by kernel_rfl
theorem row10_bits : waitsOk row10_T.2 row10_B = true := by kernel_rfl
/-- A place's state behind a number; what ends there. -/
def stepAt (S : Auto) (a n : Int) : Int := if n = -1 then 0 else S.next a (IntKind.u64.wrap n)
def stepOut (S : Auto) (a n : Int) : List Int := if n = -1 then [] else S.ends (S.next a (IntKind.u64.wrap n))

/-- The rows that are told: o's, all in new blocks. -/
def OutRow (w : World) (go lo n : Nat) (o : Nat → List Int) : Prop :=
  ∃ cur : Array Value, w.heap[go]? = some (.cells cur 31 (0, 0)) ∧ cur.size = n ∧ ∀ j, j < n → ∃ Aj cj, cur[j]? = some (.slice Aj (o j).length cj) ∧ Own w 3 1 (.slice Aj (o j).length cj) (o j).length (intCells .i64 (o j)) (fun k => lo ≤ k ∧ k ≠ go)
theorem OutRow.lt {w : World} {go lo n : Nat} {o : Nat → List Int} (h : OutRow w go lo n o) : go < w.heap.size := by
  obtain ⟨cur, h1, _⟩ := h
  exact (Array.getElem?_eq_some_iff.1 h1).1
theorem OutRow.mods {w w1 : World} {go lo n : Nat} {o : Nat → List Int} {T : Nat → Prop} (h : OutRow w go lo n o) (hlo : lo ≤ go) (hm : Mods T w w1) (hT : ∀ k, lo ≤ k → ¬ T k) : OutRow w1 go lo n o := by
  obtain ⟨cur, h1, h2, h3⟩ := h
  refine ⟨cur, (hm.block go (Array.getElem?_eq_some_iff.1 h1).1 (hT go hlo)).trans h1, h2, fun j hj => ?_⟩
  obtain ⟨Aj, cj, h4, h5⟩ := h3 j hj
  exact ⟨Aj, cj, h4, h5.mods hm (fun k _ hk => hT k hk.1)⟩
theorem OutRow.cell {w : World} {go lo n : Nat} {o : Nat → List Int} (h : OutRow w go lo n o) {j : Nat} (hj : j < n) : ∃ v, w.cell? ⟨go, j, none⟩ = some v ∧ w.frozen? ⟨go, j, none⟩ = false := by
  obtain ⟨cur, h1, h2, h3⟩ := h
  obtain ⟨Aj, cj, h4, _⟩ := h3 j hj
  exact ⟨_, by rw [cell_of_row w go j _ _ (0, 0) h1]; exact h4, by simp [World.frozen?, h1]⟩
theorem OutRow.set {w : World} {go lo n : Nat} {o : Nat → List Int} (h : OutRow w go lo n o) {j : Nat} (hj : j < n) {l : List Int} {A : Option Addr} {c : Nat} (ho : Own w 3 1 (.slice A l.length c) l.length (intCells .i64 l) (fun k => lo ≤ k ∧ k ≠ go)) :
    OutRow (w.setCell ⟨go, j, none⟩ (.slice A l.length c)) go lo n (fun i => if i = j then l else o i) := by
  obtain ⟨cur, h1, h2, h3⟩ := h
  refine ⟨cur.setIfInBounds j (.slice A l.length c), by simp [World.setCell, Array.getElem?_modify, h1], by simpa using h2, fun i hi => ?_⟩
  by_cases hij : i = j
  · subst hij
    simp only [if_true]
    refine ⟨A, c, by simp [Array.getElem?_setIfInBounds, h2, hj], ho.move (fun k hk hS => Below.heap_setCell _ _ _ _ hS.2)⟩
  · simp only [if_neg hij]
    obtain ⟨Aj, cj, h4, h5⟩ := h3 i hi
    exact ⟨Aj, cj, by rw [Array.getElem?_setIfInBounds_ne (fun h => hij h.symm)]; exact h4, h5.move (fun k hk hS => Below.heap_setCell _ _ _ _ hS.2)⟩
theorem OutRow.congr {w : World} {go lo n : Nat} {o o' : Nat → List Int} (h : OutRow w go lo n o) (he : ∀ j, j < n → o j = o' j) : OutRow w go lo n o' := by
  obtain ⟨cur, h1, h2, h3⟩ := h
  exact ⟨cur, h1, h2, fun j hj => by rw [← he j hj]; exact h3 j hj⟩

/-- .. as the print reads it. -/
theorem OutRow.F {w : World} {go lo : Nat} {os : List (List Int)} (h : OutRow w go lo os.length (fun j => os.getD j [])) (hlo : lo ≤ go) (hn : os.length ≤ 9223372036854775807) : Kd.F (Kd.slice 3 (Kd.int .i64)) w (fun k => lo ≤ k) (some ⟨go, 0, none⟩) os.length os := by
  intro W' hW
  obtain ⟨cur, h1, h2, h3⟩ := h
  have hgo := (Array.getElem?_eq_some_iff.1 h1).1
  have h1' : W'.heap[go]? = some (.cells cur 31 (0, 0)) := (hW go hlo hgo).trans h1
  refine ⟨rfl, hn, fun hpos => ⟨_, rfl, fun j p hj => ?_⟩⟩
  have hjl : j < os.length := (List.getElem?_eq_some_iff.1 hj).1
  obtain ⟨Aj, cj, h4, h5⟩ := h3 j hjl
  have hp : os.getD j [] = p := by rw [List.getD_eq_getElem?_getD, hj]; rfl
  simp only at h4 h5
  rw [hp] at h4 h5
  refine ⟨[.slice Aj p.length cj], rfl, ⟨Aj, cj, rfl, (own_cap h5).1, ?_⟩, fun i u hu => ?_⟩
  · have := F_of_own h5
    exact Kd.F_now (Kd.F_step (W1 := W') this (fun k hk hlt => hW k hk.1 hlt))
  · cases i with
    | zero =>
      have : u = .slice Aj p.length cj := by simpa using hu.symm
      rw [this]
      have h9 : (Kd.slice 3 (Kd.int .i64)).sz = 1 := rfl
      rw [h9, Nat.mul_one, Nat.add_zero, addr_add, Nat.zero_add, cell_of_row W' go j _ _ (0, 0) h1']
      exact h4
    | succ i => simp at hu

theorem infoSliceInt : (Try.prog.info? 31).map (fun i => (i.zero, i.size, i.bytes)) = some (some (.slice none 0 0), 1, 24) := by kernel_rfl
theorem OutRow.made {w : World} {go n lo : Nat} (h : w.heap[go]? = some (.cells (madeCells #[.slice none 0 0] n) 31 (0, 0))) : OutRow w go lo n (fun _ => []) := by
  refine ⟨_, h, by simp [size_madeCells], fun j hj => ⟨none, 0, ?_, Own.nil _ _ _ _⟩⟩
  have hz : j % 1 = 0 := Nat.mod_one j
  simp [madeCells, hj, hz]

theorem ret_se {v v' : Value} {a a' : Int} (hv : v = v') (h : a = a') : Ending.returned (.tuple #[v, .int .i64 a]) = .returned (.tuple #[v', .int .i64 a']) := by rw [hv, h]

set_option maxRecDepth 100000 in
set_option maxHeartbeats 2000000 in
theorem colsRow_bad (R : Nat → Prop) (bm rows : Nat) (S : Auto) (at_ : List Int) (w : World) (hM : MachAt R w bm S at_ rows) (A : Option Addr) (c : Nat) (l : List Int) (hv : (Kd.int .i64).C w A l.length l) (hc : l.length ≤ c) (hm : l.length ≤ 1099511627776)
    (hbad : l.length ≠ at_.length ∨ l.any negB = true) :
    Calls Try.prog 21 #[.pointer (some ⟨bm, 0, none⟩), .slice A l.length c] w fun e w' => e = .returned (.tuple #[.slice none 0 0, .int .i64 1]) ∧ w = w' := by
  obtain ⟨ba, ga, cap, hM⟩ := hM
  have c0 := cell_of_row w bm 0 _ _ (0, 0) hM.block
  have c1 := cell_of_row w bm 1 _ _ (0, 0) hM.block
  simp only [List.getElem?_toArray, List.getElem?_cons_zero, List.getElem?_cons_succ] at c0 c1
  have hv' := Lib.hid hv
  clear hv hM
  by_cases hl : l.length = at_.length
  · have hn := Lib.hid (hbad.resolve_left (fun h => h hl))
    have hb : ((l.length : Int) != (at_.length : Int)) = false := by simp [hl]
    have hb2 : ((l.length : Int) == (at_.length : Int)) = true := by simp [hl]
    clear hbad hl
    go_enter Try.func21, Try.ntmps21
    go_wp2_with fail
    refine (anyNeg_calls A c l _ hv'.out hc hm).mono ?_
    rintro e w' ⟨rfl, rfl⟩
    rw [hn.out]
    go_wp2_with fail
    go_ret2
    exact ⟨rfl, rfl⟩
  · have hb : ((l.length : Int) != (at_.length : Int)) = true := by simp; omega
    have hb2 : ((l.length : Int) == (at_.length : Int)) = false := by simp; omega
    clear hbad hl
    go_enter Try.func21, Try.ntmps21
    go_wp2_with fail
    go_ret2
    exact ⟨rfl, rfl⟩

/-- The states when the first i places are done. -/
def atUpto (S : Auto) (at_ l : List Int) (i : Nat) : List Int := (List.zipWith (stepAt S) at_ l).take i ++ at_.drop i
theorem atUpto_length {S : Auto} {at_ l : List Int} {i : Nat} (h : l.length = at_.length) (hi : i ≤ at_.length) : (atUpto S at_ l i).length = at_.length := by
  simp [atUpto, List.length_zipWith, h]; omega
theorem atUpto_get {S : Auto} {at_ l : List Int} {i : Nat} (h : l.length = at_.length) (hi : i < at_.length) : (atUpto S at_ l i).getD i 0 = at_.getD i 0 := by
  have hz : ((List.zipWith (stepAt S) at_ l).take i).length = i := by simp [List.length_zipWith, h]; omega
  unfold atUpto
  rw [List.getD_eq_getElem?_getD, List.getElem?_append_right (by omega), hz, Nat.sub_self, List.getElem?_drop, Nat.add_zero, ← List.getD_eq_getElem?_getD]
theorem atUpto_set {S : Auto} {at_ l : List Int} {i : Nat} (h : l.length = at_.length) (hi : i < at_.length) : (atUpto S at_ l i).set i (stepAt S (at_.getD i 0) (l.getD i 0)) = atUpto S at_ l (i + 1) := by
  have hzl : i < (List.zipWith (stepAt S) at_ l).length := by simp [List.length_zipWith, h]; omega
  have hz : ((List.zipWith (stepAt S) at_ l).take i).length = i := by simp [List.length_zipWith, h]; omega
  have hil : i < l.length := by omega
  unfold atUpto
  rw [List.take_succ_eq_append_getElem hzl, List.drop_eq_getElem_cons hi, List.set_append_right _ _ (by omega), hz, Nat.sub_self, List.set_cons_zero, List.append_assoc]
  simp [hi, hil]
theorem atUpto_all {S : Auto} {at_ l : List Int} (h : l.length = at_.length) : atUpto S at_ l at_.length = List.zipWith (stepAt S) at_ l := by
  unfold atUpto
  rw [List.drop_length, List.append_nil, List.take_of_length_le (by simp [List.length_zipWith]; omega)]
def outUpto (S : Auto) (at_ l : List Int) (i : Nat) : Nat → List Int := fun j => if j < i then stepOut S (at_.getD j 0) (l.getD j 0) else []

theorem MachIn.cells {R : Nat → Prop} {w : World} {bm ba ga cap rows : Nat} {S : Auto} {at_ : List Int} (h : MachIn R w bm ba ga cap S at_ rows) :
    w.cell? ⟨bm, 0, none⟩ = some (.pointer (some ⟨ba, 0, none⟩)) ∧ w.cell? ⟨bm, 1, none⟩ = some (.slice (some ⟨ga, 0, none⟩) at_.length cap) ∧ w.cell? ⟨bm, 2, none⟩ = some (.int .i64 rows) ∧ ∀ j, w.frozen? ⟨bm, j, none⟩ = false :=
  ⟨by rw [cell_of_row w bm 0 _ _ (0, 0) h.block]; rfl, by rw [cell_of_row w bm 1 _ _ (0, 0) h.block]; rfl, by rw [cell_of_row w bm 2 _ _ (0, 0) h.block]; rfl, fun j => by simp [World.frozen?, h.block]⟩
/-- A store of a place's state. -/
theorem MachIn.setAt {R : Nat → Prop} {w : World} {bm ba ga cap rows : Nat} {S : Auto} {at_ : List Int} (h : MachIn R w bm ba ga cap S at_ rows) {i : Nat} (hi : i < at_.length) (x : Int) : MachIn R (w.setCell ⟨ga, i, none⟩ (.int .i64 x)) bm ba ga cap S (at_.set i x) rows :=
  ⟨by rw [List.length_set]; exact (Below.heap_setCell _ _ _ _ h.ne).trans h.block, h.auto.mods (T := fun k => k = ga) (Mods.setCell _ _ _ rfl) (fun k hk e => hk.2.2 e), h.row.set hi x, h.ne, h.bm, h.ga⟩
theorem MachIn.mods {R T : Nat → Prop} {w w1 : World} {bm ba ga cap rows : Nat} {S : Auto} {at_ : List Int} (h : MachIn R w bm ba ga cap S at_ rows) (hm : Mods T w w1) (hd : ∀ k, k < w.heap.size → R k → ¬ T k) : MachIn R w1 bm ba ga cap S at_ rows := by
  have hb := (Array.getElem?_eq_some_iff.1 h.block).1
  have ha := (h.auto.mono (R' := fun k => (R k ∧ k ≠ bm ∧ k ≠ ga) ∧ k < w.heap.size) (fun k hk h => ⟨h, hk⟩)).mods hm (fun k hk => hd k hk.2 hk.1.1)
  exact ⟨(hm.block bm hb (hd bm hb h.bm)).trans h.block, ha.mono (fun k _ h => h.1), h.row.move (hm.block ga h.row.lt (hd ga h.row.lt h.ga)), h.ne, h.bm, h.ga⟩
theorem MachIn.below {R : Nat → Prop} {w w1 : World} {bm ba ga cap rows : Nat} {S : Auto} {at_ : List Int} (h : MachIn R w bm ba ga cap S at_ rows) (hb : Below w.heap.size w w1) : MachIn R w1 bm ba ga cap S at_ rows := h.mods (T := fun _ => False) (Mods.of_below hb) (fun _ _ _ h => h)

set_option maxRecDepth 100000 in
set_option maxHeartbeats 8000000 in
theorem colsRow_good (R : Nat → Prop) (bm rows : Nat) (S : Auto) (at_ : List Int) (w : World) (hM : MachAt R w bm S at_ rows) (okS : AutoOk S) (hin : ∀ a ∈ at_, 0 ≤ a ∧ a < List.length S) (hnext : ∀ a p : Int, 0 ≤ a → a < List.length S → 0 ≤ S.next a p ∧ S.next a p < List.length S)
    (A : Option Addr) (c : Nat) (l : List Int) (ok : Nat → Prop) (hv : Kd.F (Kd.int .i64) w ok A l.length l) (hok : ∀ k, ok k → ¬ R k) (hc : l.length ≤ c) (hm : at_.length ≤ 4096) (hlen : l.length = at_.length) (hneg : l.any negB = false) (hrows : rows ≤ 1048576) (hRlt : ∀ k, R k → k < w.heap.size) :
    Calls Try.prog 21 #[.pointer (some ⟨bm, 0, none⟩), .slice A l.length c] w fun e w' => ∃ go, e = .returned (.tuple #[.slice (some ⟨go, 0, none⟩) l.length l.length, .int .i64 0]) ∧
      Kd.F (Kd.slice 3 (Kd.int .i64)) w' (fun k => w.heap.size ≤ k) (some ⟨go, 0, none⟩) l.length (List.zipWith (stepOut S) at_ l) ∧ MachAt R w' bm S (List.zipWith (stepAt S) at_ l) (rows + 1) ∧ Mods (fun k => R k ∧ k < w.heap.size) w w' := by
  obtain ⟨ba, ga, cap, hM⟩ := hM
  have hM' := Lib.hid hM
  have hv' := Lib.hid hv
  have hok' := Lib.hid hok
  have hin' := Lib.hid hin
  have hnext' := Lib.hid hnext
  have okS' := Lib.hid okS
  have hneg' := Lib.hid hneg
  have hlen' := Lib.hid hlen
  have hga : ga < w.heap.size := hM.row.lt
  have hbm : bm < w.heap.size := (Array.getElem?_eq_some_iff.1 hM.block).1
  obtain ⟨n, hn⟩ : ∃ n, l.length = n := ⟨_, rfl⟩
  have hatn : at_.length = n := by omega
  have hn' := Lib.hid hn
  have hatn' := Lib.hid hatn
  obtain ⟨c0, c1, c2, c3⟩ := hM.cells
  rw [hatn] at c1
  have hb : ((n : Int) != (n : Int)) = false := by simp
  have hb2 : ((n : Int) == (n : Int)) = true := by simp
  obtain ⟨i1, hi1, hz1, hzs1, hzb1⟩ := info_parts infoSliceInt
  have hnm : n ≤ 4096 := by omega
  have hmk := fun W => run_make (P := Try.prog) W 36 31 i1 _ Try.underlying36 hi1 hz1 .i64 .i64 n n (by omega) (by omega) (by rw [hzb1]; omega) (by omega)
  rw [hzs1] at hmk
  simp only [Value.cells, Nat.mul_one] at hmk
  clear hM hv hok hin hnext okS hneg hlen hatn c2 c3
  rw [hn]
  rw [hn] at hc
  clear hn
  go_enter Try.func21, Try.ntmps21
  go_wp2_with fail
  have hCn := Kd.F_now hv'.out
  have hCn' := Lib.hid hCn
  clear hCn
  rw [← hn'.out]
  refine (anyNeg_calls A c l _ hCn'.out (by rw [hn'.out]; exact hc) (by rw [hn'.out]; omega)).mono ?_
  rintro e w' ⟨rfl, rfl⟩
  rw [hneg'.out, hn'.out]
  go_wp2_with fail
  have hB1 : Below w.heap.size w (w.alloc (.cells (madeCells #[.slice none 0 0] n) 31)) := (Below.refl _ _).alloc (Nat.le_refl _) _
  have hM1 := Lib.hid (hM'.out.below hB1)
  have hO1 := Lib.hid (OutRow.made (lo := w.heap.size) (World.alloc_heap_new w (.cells (madeCells #[.slice none 0 0] n) 31)))
  have hRga := hM'.out.ga
  have hRlt' := Lib.hid hRlt
  have hRga' := Lib.hid hRga
  clear hmk c0 c1 hRga hb hb2
  go_loopw [26] (fun x wr => ∃ i : Nat, x = .int .i64 i ∧ i ≤ n ∧ MachIn R wr bm ba ga cap S (atUpto S at_ l i) rows ∧ OutRow wr w.heap.size w.heap.size n (outUpto S at_ l i) ∧ Mods (fun k => k = ga) w wr) (fun x _ => n - (intOf x).toNat)
  case atStart => exact ⟨0, rfl, Nat.zero_le _, by simpa [atUpto] using hM1.out, hO1.out, Mods.of_below hB1⟩
  case round =>
    obtain ⟨i, rfl, hi, hMi, hOi, hmod⟩ := hrel
    have hlat := atUpto_length (S := S) (i := i) hlen'.out (by have := hatn'.out; omega)
    rw [hatn'.out] at hlat
    have hMi' := Lib.hid hMi
    have hOi' := Lib.hid hOi
    have hlat' := Lib.hid hlat
    clear hMi hOi hlat
    by_cases hlt : i < n
    · have hgetS := atUpto_get (S := S) (i := i) hlen'.out (by have := hatn'.out; omega)
      have hsetS := atUpto_set (S := S) (i := i) hlen'.out (by have := hatn'.out; omega)
      obtain ⟨c0, c1, _, c3⟩ := hMi'.out.cells
      rw [hlat'.out] at c1
      have d1 := hMi'.out.row.cell (j := i) (by rw [hlat'.out]; exact hlt)
      have f1 := hMi'.out.row.frozen i
      rw [hgetS] at d1
      have hFr : Kd.F (Kd.int .i64) wr ok A l.length l := Kd.F_step hv'.out (fun k hk hlt2 => hmod.block k hlt2 (fun e => hok'.out k hk (e ▸ hRga'.out)))
      obtain ⟨b, off, rfl, hcells⟩ := C_cells (Kd.F_now hFr) (by rw [hn'.out]; omega)
      have e1 := hcells i (by rw [hn'.out]; exact hlt)
      have hmem : at_.getD i 0 ∈ at_ := by rw [List.getD_eq_getElem?_getD, List.getElem?_eq_getElem (by rw [hatn'.out]; exact hlt)]; exact List.getElem_mem _
      have hain := hin'.out _ hmem
      have hou : outUpto S at_ l (i + 1) = fun j => if j = i then stepOut S (at_.getD i 0) (l.getD i 0) else outUpto S at_ l i j := by
        funext j
        unfold outUpto
        by_cases hj : j = i
        · subst hj; simp
        · by_cases hj2 : j < i
          · rw [if_pos (by omega), if_neg hj, if_pos hj2]
          · rw [if_neg (by omega), if_neg hj, if_neg hj2]
      obtain ⟨x, hx⟩ : ∃ x, l.getD i 0 = x := ⟨_, rfl⟩
      obtain ⟨a, ha⟩ : ∃ a, at_.getD i 0 = a := ⟨_, rfl⟩
      rw [hx] at e1 hsetS hou
      rw [ha] at d1 hain hsetS hou
      have hsetS' := Lib.hid hsetS
      have hou' := Lib.hid hou
      have hi0 : (0 : Int) ≤ (i : Int) := by omega
      have hi1 : (i : Int) < (n : Int) := by omega
      clear hFr hcells hx ha hmem hgetS hsetS hou
      by_cases hxm : x = -1
      · have hsa : stepAt S a x = 0 := by unfold stepAt; rw [if_pos hxm]
        have hso : stepOut S a x = [] := by unfold stepOut; rw [if_pos hxm]
        have hM2 := Lib.hid (hMi'.out.setAt (i := i) (by rw [hlat'.out]; exact hlt) 0)
        rw [← hsa, hsetS'.out, hsa] at hM2
        have hO2 : Hid (OutRow wr w.heap.size w.heap.size n (outUpto S at_ l (i + 1))) := Lib.hid (hOi'.out.congr (fun j hj => by
          rw [hou'.out, hso]
          simp only
          by_cases hj2 : j = i
          · rw [if_pos hj2, hj2]; unfold outUpto; rw [if_neg (by omega)]
          · rw [if_neg hj2]))
        clear hsa hso
        subst hxm
        go_wp2_with fail
        go_roundw
        case rel => exact ⟨i + 1, by go_num, by omega, hM2.out, hO2.out.mods (Nat.le_refl _) (Mods.setCell (S := fun k => k = ga) wr ⟨ga, i, none⟩ (.int .i64 0) rfl) (fun k hk e => by omega), hmod.trans (Mods.setCell (S := fun k => k = ga) wr ⟨ga, i, none⟩ (.int .i64 0) rfl) (fun _ _ h => h)⟩
        case measure => simp [intOf]; omega
      · have hxb : (x == -1) = false := by simpa using hxm
        have hsa : stepAt S a x = S.next a (IntKind.u64.wrap x) := by unfold stepAt; rw [if_neg hxm]
        have hso : stepOut S a x = S.ends (S.next a (IntKind.u64.wrap x)) := by unfold stepOut; rw [if_neg hxm]
        obtain ⟨g, hAt⟩ := hMi'.out.auto.at
        have hAt' := Lib.hid hAt
        obtain ⟨nx, hnx⟩ : ∃ nx, S.next a (IntKind.u64.wrap x) = nx := ⟨_, rfl⟩
        have hnr := hnext'.out a (IntKind.u64.wrap x) hain.1 hain.2
        rw [hnx] at hsa hso hnr
        have hnx' := Lib.hid hnx
        have hsa' := Lib.hid hsa
        have hso' := Lib.hid hso
        clear hxm hAt hnx hsa hso
        go_wp2_with fail
        refine start_ (n := 21) (S := fun w' => w'.cell? ⟨bm, 0, none⟩ = some (.pointer (some ⟨ba, 0, none⟩)) ∧ w'.cell? ⟨bm, 1, none⟩ = some (.slice (some ⟨ga, 0, none⟩) n cap) ∧ w'.cell? ⟨ga, i, none⟩ = some (.int .i64 a)) (ds := [20]) #[false, false, false, false, false, false, false, false, false, false, false, false, false, false, false, false, false, false, false, false, false] (by kernel_rfl) rfl rfl ⟨c0, c1, d1⟩ (fun hHeld => ?_); refine with_tabW row9_tab row9_bits (fun HT_ HW_ => ?_)
        refine pure_ (i := 0) (N := some 39) (v := ?_) (a' := ?_) #[true, false, false, false, false, false, false, false, false, false, false, false, false, false, false, false, false, false, false, false, false] rfl rfl (any_of HT_.out (by kernel_rfl)) (fun _ _ _ h => h) (Or.inl ⟨by rfl, ?_⟩) ?_ ?_
        rotate_left
        · intro w'
          go_simp
          with_reducible rfl
        rotate_left
        · simp only [Act.put, List.setIfInBounds_toArray, List.set_cons_zero, List.set_cons_succ, i64_w, i32_w]
          rfl
        refine pure_ (i := 1) (N := some 40) (v := ?_) (a' := ?_) #[true, true, false, false, false, false, false, false, false, false, false, false, false, false, false, false, false, false, false, false, false] rfl rfl (any_of HT_.out (by kernel_rfl)) (fun _ _ _ h => h) (Or.inl ⟨by rfl, ?_⟩) ?_ ?_
        rotate_left
        · intro w'
          go_simp
          with_reducible rfl
        rotate_left
        · simp only [Act.put, List.setIfInBounds_toArray, List.set_cons_zero, List.set_cons_succ, i64_w, i32_w]
          rfl
        refine pure_ (i := 2) (N := some 41) (v := ?_) (a' := ?_) #[true, true, true, false, false, false, false, false, false, false, false, false, false, false, false, false, false, false, false, false, false] rfl rfl (any_of HT_.out (by kernel_rfl)) (fun _ _ _ h => h) (Or.inl ⟨by rfl, ?_⟩) ?_ ?_
        rotate_left
        · intro w'
          go_simp
          with_reducible rfl
        rotate_left
        · simp only [Act.put, List.setIfInBounds_toArray, List.set_cons_zero, List.set_cons_succ, i64_w, i32_w]
          rfl
        refine pure_ (i := 4) (N := some 43) (v := ?_) (a' := ?_) #[true, true, true, false, true, false, false, false, false, false, false, false, false, false, false, false, false, false, false, false, false] rfl rfl (any_of HT_.out (by kernel_rfl)) (fun _ _ _ h => h) (Or.inl ⟨by rfl, ?_⟩) ?_ ?_
        rotate_left
        · intro w'
          go_simp
          with_reducible rfl
        rotate_left
        · simp only [Act.put, List.setIfInBounds_toArray, List.set_cons_zero, List.set_cons_succ, i64_w, i32_w]
          rfl
        refine pure_ (i := 5) (N := some 44) (v := ?_) (a' := ?_) #[true, true, true, false, true, true, false, false, false, false, false, false, false, false, false, false, false, false, false, false, false] rfl rfl (any_of HT_.out (by kernel_rfl)) (fun _ _ _ h => h) (Or.inl ⟨by rfl, ?_⟩) ?_ ?_
        rotate_left
        · intro w'
          go_simp
          with_reducible rfl
        rotate_left
        · simp only [Act.put, List.setIfInBounds_toArray, List.set_cons_zero, List.set_cons_succ, i64_w, i32_w]
          rfl
        refine pure_ (i := 6) (N := some 45) (v := ?_) (a' := ?_) #[true, true, true, false, true, true, true, false, false, false, false, false, false, false, false, false, false, false, false, false, false] rfl rfl (any_of HT_.out (by kernel_rfl)) (fun _ _ _ h => h) (Or.inl ⟨by rfl, ?_⟩) ?_ ?_
        rotate_left
        · intro w'
          go_simp
          with_reducible rfl
        rotate_left
        · simp only [Act.put, List.setIfInBounds_toArray, List.set_cons_zero, List.set_cons_succ, i64_w, i32_w]
          rfl
        refine pure_ (i := 7) (N := some 46) (v := ?_) (a' := ?_) #[true, true, true, false, true, true, true, true, false, false, false, false, false, false, false, false, false, false, false, false, false] rfl rfl (any_of HT_.out (by kernel_rfl)) (fun _ _ _ h => h) (Or.inl ⟨by rfl, ?_⟩) ?_ ?_
        rotate_left
        · intro w'
          go_simp
          with_reducible rfl
        rotate_left
        · simp only [Act.put, List.setIfInBounds_toArray, List.set_cons_zero, List.set_cons_succ, i64_w, i32_w]
          rfl
        refine pure_ (i := 9) (N := some 48) (v := ?_) (a' := ?_) #[true, true, true, false, true, true, true, true, false, true, false, false, false, false, false, false, false, false, false, false, false] rfl rfl (any_of HT_.out (by kernel_rfl)) (fun _ _ _ h => h) (Or.inl ⟨by rfl, ?_⟩) ?_ ?_
        rotate_left
        · intro w'
          go_simp
          with_reducible rfl
        rotate_left
        · simp only [Act.put, List.setIfInBounds_toArray, List.set_cons_zero, List.set_cons_succ, i64_w, i32_w]
          rfl
        refine pure_ (i := 10) (N := some 49) (v := ?_) (a' := ?_) #[true, true, true, false, true, true, true, true, false, true, true, false, false, false, false, false, false, false, false, false, false] rfl rfl (any_of HT_.out (by kernel_rfl)) (fun _ _ _ h => h) (Or.inl ⟨by rfl, ?_⟩) ?_ ?_
        rotate_left
        · intro w'
          go_simp
          with_reducible rfl
        rotate_left
        · simp only [Act.put, List.setIfInBounds_toArray, List.set_cons_zero, List.set_cons_succ, i64_w, i32_w]
          rfl
        refine pure_ (i := 11) (N := some 50) (v := ?_) (a' := ?_) #[true, true, true, false, true, true, true, true, false, true, true, true, false, false, false, false, false, false, false, false, false] rfl rfl (any_of HT_.out (by kernel_rfl)) (fun _ _ _ h => h) (Or.inl ⟨by rfl, ?_⟩) ?_ ?_
        rotate_left
        · intro w'
          go_simp
          with_reducible rfl
        rotate_left
        · simp only [Act.put, List.setIfInBounds_toArray, List.set_cons_zero, List.set_cons_succ, i64_w, i32_w]
          rfl
        refine pure_ (i := 13) (N := some 52) (v := ?_) (a' := ?_) #[true, true, true, false, true, true, true, true, false, true, true, true, false, true, false, false, false, false, false, false, false] rfl rfl (any_of HT_.out (by kernel_rfl)) (fun _ _ _ h => h) (Or.inl ⟨by rfl, ?_⟩) ?_ ?_
        rotate_left
        · intro w'
          go_simp
          with_reducible rfl
        rotate_left
        · simp only [Act.put, List.setIfInBounds_toArray, List.set_cons_zero, List.set_cons_succ, i64_w, i32_w]
          rfl
        refine pure_ (i := 16) (N := some 55) (v := ?_) (a' := ?_) #[true, true, true, false, true, true, true, true, false, true, true, true, false, true, false, false, true, false, false, false, false] rfl rfl (any_of HT_.out (by kernel_rfl)) (fun _ _ _ h => h) (Or.inl ⟨by rfl, ?_⟩) ?_ ?_
        rotate_left
        · intro w'
          go_simp
          with_reducible rfl
        rotate_left
        · simp only [Act.put, List.setIfInBounds_toArray, List.set_cons_zero, List.set_cons_succ, i64_w, i32_w]
          rfl
        refine pure_ (i := 17) (N := some 56) (v := ?_) (a' := ?_) #[true, true, true, false, true, true, true, true, false, true, true, true, false, true, false, false, true, true, false, false, false] rfl rfl (any_of HT_.out (by kernel_rfl)) (fun _ _ _ h => h) (Or.inl ⟨by rfl, ?_⟩) ?_ ?_
        rotate_left
        · intro w'
          go_simp
          with_reducible rfl
        rotate_left
        · simp only [Act.put, List.setIfInBounds_toArray, List.set_cons_zero, List.set_cons_succ, i64_w, i32_w]
          rfl
        refine take_ (i := 3) (N := some 42) (v := ?_) (a' := ?_) #[true, true, true, true, true, true, true, true, false, true, true, true, false, true, false, false, true, true, false, false, false] rfl rfl (take_ofW HT_.out HW_.out (by kernel_rfl)) (fun _ _ _ h => h) (Or.inl ⟨by rfl, ?_⟩) hHeld ?_ ?_
        rotate_left
        · rintro w' ⟨s0, s1, s2⟩
          go_simp
          with_reducible rfl
        rotate_left
        · simp only [Act.put, List.setIfInBounds_toArray, List.set_cons_zero, List.set_cons_succ, i64_w, i32_w]
          rfl
        refine take_ (i := 8) (N := some 47) (v := ?_) (a' := ?_) #[true, true, true, true, true, true, true, true, true, true, true, true, false, true, false, false, true, true, false, false, false] rfl rfl (take_ofW HT_.out HW_.out (by kernel_rfl)) (fun _ _ _ h => h) (Or.inl ⟨by rfl, ?_⟩) hHeld ?_ ?_
        rotate_left
        · rintro w' ⟨s0, s1, s2⟩
          go_simp
          with_reducible rfl
        rotate_left
        · simp only [Act.put, List.setIfInBounds_toArray, List.set_cons_zero, List.set_cons_succ, i64_w, i32_w]
          rfl
        refine take_ (i := 12) (N := some 51) (v := ?_) (a' := ?_) #[true, true, true, true, true, true, true, true, true, true, true, true, true, true, false, false, true, true, false, false, false] rfl rfl (take_ofW HT_.out HW_.out (by kernel_rfl)) (fun _ _ _ h => h) (Or.inl ⟨by rfl, ?_⟩) hHeld ?_ ?_
        rotate_left
        · rintro w' ⟨s0, s1, s2⟩
          go_simp
          with_reducible rfl
        rotate_left
        · simp only [Act.put, List.setIfInBounds_toArray, List.set_cons_zero, List.set_cons_succ, i64_w, i32_w]
          rfl
        refine pure_ (i := 14) (N := some 53) (v := ?_) (a' := ?_) #[true, true, true, true, true, true, true, true, true, true, true, true, true, true, true, false, true, true, false, false, false] rfl rfl (any_of HT_.out (by kernel_rfl)) (fun _ _ _ h => h) (Or.inl ⟨by rfl, ?_⟩) ?_ ?_
        rotate_left
        · intro w'
          go_simp
          with_reducible rfl
        rotate_left
        · simp only [Act.put, List.setIfInBounds_toArray, List.set_cons_zero, List.set_cons_succ, i64_w, i32_w]
          rfl
        refine take_ (i := 15) (N := some 54) (v := ?_) (a' := ?_) #[true, true, true, true, true, true, true, true, true, true, true, true, true, true, true, true, true, true, false, false, false] rfl rfl (take_ofW HT_.out HW_.out (by kernel_rfl)) (fun _ _ _ h => h) (Or.inl ⟨by rfl, ?_⟩) hHeld ?_ ?_
        rotate_left
        · rintro w' ⟨s0, s1, s2⟩
          go_simp
          with_reducible rfl
        rotate_left
        · simp only [Act.put, List.setIfInBounds_toArray, List.set_cons_zero, List.set_cons_succ, i64_w, i32_w]
          rfl
        refine one_ (i := 18) (N := some 57) #[true, true, true, true, true, true, true, true, true, true, true, true, true, true, true, true, true, true, true, false, false] rfl rfl (one_of HT_.out (by kernel_rfl)) (by decide) (fun K hK => ?_)
        refine goes_ Try.func55 (by kernel_rfl) rfl #[.pointer (some ⟨ba, 0, none⟩), .int .i64 a, .int .u64 (IntKind.u64.wrap x)] (by rfl) rfl rfl (by (try simp only [List.map_toArray, List.map_cons, List.map_nil]); first | done | rfl) ?_
        refine (autoNext_calls ba g S a (IntKind.u64.wrap x) _ (hAt'.out.below ((Below.refl _ _).drew)) okS'.out).mono ?_
        rintro e w7 ⟨rfl, hb7⟩
        rw [hnx'.out]
        refine ⟨_, rfl, ?_⟩
        have hb7x : Below wr.heap.size wr w7 := ((Below.refl _ _).drew).trans hb7
        refine hK.out _ _ ⟨(hb7x.cell (p := ⟨bm, 0, none⟩) (World.block_lt_of_cell? wr _ c0)).trans c0, (hb7x.cell (p := ⟨bm, 1, none⟩) (World.block_lt_of_cell? wr _ c1)).trans c1, (hb7x.cell (p := ⟨ga, i, none⟩) (World.block_lt_of_cell? wr _ d1)).trans d1⟩ (fun hHeld => ?_)
        clear hK K
        refine norm_ (a' := ?_) ?_ ?_
        rotate_left
        · show Act.put _ (some 57) _ = _
          simp only [Act.put, List.setIfInBounds_toArray, List.set_cons_zero, List.set_cons_succ, i64_w, i32_w]
          rfl
        refine pure_ (i := 19) (N := some 58) (v := ?_) (a' := ?_) #[true, true, true, true, true, true, true, true, true, true, true, true, true, true, true, true, true, true, true, true, false] rfl rfl (any_of HT_.out (by kernel_rfl)) (fun _ _ _ h => h) (Or.inl ⟨by rfl, ?_⟩) ?_ ?_
        rotate_left
        · intro w'
          go_simp
          with_reducible rfl
        rotate_left
        · simp only [Act.put, List.setIfInBounds_toArray, List.set_cons_zero, List.set_cons_succ, i64_w, i32_w]
          rfl
        refine last_ (i := 20) (N := none) #[true, true, true, true, true, true, true, true, true, true, true, true, true, true, true, true, true, true, true, true, true] rfl rfl (one_of HT_.out (by kernel_rfl)) (by decide) (fun K hK => ?_)
        have hM7 := Lib.hid (hMi'.out.below hb7x)
        have hb7' := Lib.hid hb7x
        have z7 := hHeld.2.2
        have f7 := hM7.out.row.frozen i
        refine skip_ (w1 := ?_) (by rfl) rfl ?_ ?_
        rotate_left
        · go_simp
          rfl
        refine hK.out _ _ ?_
        clear hK K
        refine done_ (done_of HT_.out (by kernel_rfl)) ?_
        have hM8 := Lib.hid (hM7.out.setAt (i := i) (by rw [hlat'.out]; exact hlt) nx)
        rw [← hsa'.out, hsetS'.out, hsa'.out] at hM8
        have hm8 : Mods (fun k => k = ga) wr (w7.setCell ⟨ga, i, none⟩ (.int .i64 nx)) := (Mods.of_below (S := fun k => k = ga) hb7'.out).trans (Mods.setCell (S := fun k => k = ga) w7 ⟨ga, i, none⟩ (.int .i64 nx) rfl) (fun _ _ h => h)
        have hm8' := Lib.hid hm8
        clear hm8 hM7 hHeld z7 f7 c0 c1 c3 d1 f1 e1
        generalize w7.setCell ⟨ga, i, none⟩ (.int .i64 nx) = w8 at hM8 hm8' ⊢
        have hlat2 := atUpto_length (S := S) (i := i + 1) hlen'.out (by have := hatn'.out; omega)
        rw [hatn'.out] at hlat2
        have hget2 : (atUpto S at_ l (i + 1)).getD i 0 = nx := by
          rw [← hsetS'.out, hsa'.out]
          simp [hlat'.out, hlt]
        obtain ⟨c0, c1, _, c3⟩ := hM8.out.cells
        rw [hlat2] at c1
        have d1 := hM8.out.row.cell (j := i) (by rw [hlat2]; exact hlt)
        rw [hget2] at d1
        have hO8 := Lib.hid (hOi'.out.mods (Nat.le_refl _) hm8'.out (fun k hk e => by omega))
        obtain ⟨g8, hAt8⟩ := hM8.out.auto.at
        have hAt8' := Lib.hid hAt8
        clear hlat2 hget2 hAt8
        go_wp2_with fail
        refine start_ (n := 16) (S := fun w' => w'.cell? ⟨bm, 0, none⟩ = some (.pointer (some ⟨ba, 0, none⟩)) ∧ w'.cell? ⟨bm, 1, none⟩ = some (.slice (some ⟨ga, 0, none⟩) n cap) ∧ w'.cell? ⟨ga, i, none⟩ = some (.int .i64 nx)) (ds := [15]) #[false, false, false, false, false, false, false, false, false, false, false, false, false, false, false, false] (by kernel_rfl) rfl rfl ⟨c0, c1, d1⟩ (fun hHeld => ?_); refine with_tabW row10_tab row10_bits (fun HT_ HW_ => ?_)
        refine pure_ (i := 0) (N := some 59) (v := ?_) (a' := ?_) #[true, false, false, false, false, false, false, false, false, false, false, false, false, false, false, false] rfl rfl (any_of HT_.out (by kernel_rfl)) (fun _ _ _ h => h) (Or.inl ⟨by rfl, ?_⟩) ?_ ?_
        rotate_left
        · intro w'
          go_simp
          with_reducible rfl
        rotate_left
        · simp only [Act.put, List.setIfInBounds_toArray, List.set_cons_zero, List.set_cons_succ, i64_w, i32_w]
          rfl
        refine pure_ (i := 1) (N := some 60) (v := ?_) (a' := ?_) #[true, true, false, false, false, false, false, false, false, false, false, false, false, false, false, false] rfl rfl (any_of HT_.out (by kernel_rfl)) (fun _ _ _ h => h) (Or.inl ⟨by rfl, ?_⟩) ?_ ?_
        rotate_left
        · intro w'
          go_simp
          with_reducible rfl
        rotate_left
        · simp only [Act.put, List.setIfInBounds_toArray, List.set_cons_zero, List.set_cons_succ, i64_w, i32_w]
          rfl
        refine pure_ (i := 2) (N := some 61) (v := ?_) (a' := ?_) #[true, true, true, false, false, false, false, false, false, false, false, false, false, false, false, false] rfl rfl (any_of HT_.out (by kernel_rfl)) (fun _ _ _ h => h) (Or.inl ⟨by rfl, ?_⟩) ?_ ?_
        rotate_left
        · intro w'
          go_simp
          with_reducible rfl
        rotate_left
        · simp only [Act.put, List.setIfInBounds_toArray, List.set_cons_zero, List.set_cons_succ, i64_w, i32_w]
          rfl
        refine pure_ (i := 3) (N := some 62) (v := ?_) (a' := ?_) #[true, true, true, true, false, false, false, false, false, false, false, false, false, false, false, false] rfl rfl (any_of HT_.out (by kernel_rfl)) (fun _ _ _ h => h) (Or.inl ⟨by rfl, ?_⟩) ?_ ?_
        rotate_left
        · intro w'
          go_simp
          with_reducible rfl
        rotate_left
        · simp only [Act.put, List.setIfInBounds_toArray, List.set_cons_zero, List.set_cons_succ, i64_w, i32_w]
          rfl
        refine pure_ (i := 4) (N := some 63) (v := ?_) (a' := ?_) #[true, true, true, true, true, false, false, false, false, false, false, false, false, false, false, false] rfl rfl (any_of HT_.out (by kernel_rfl)) (fun _ _ _ h => h) (Or.inl ⟨by rfl, ?_⟩) ?_ ?_
        rotate_left
        · intro w'
          go_simp
          with_reducible rfl
        rotate_left
        · simp only [Act.put, List.setIfInBounds_toArray, List.set_cons_zero, List.set_cons_succ, i64_w, i32_w]
          rfl
        refine pure_ (i := 6) (N := some 65) (v := ?_) (a' := ?_) #[true, true, true, true, true, false, true, false, false, false, false, false, false, false, false, false] rfl rfl (any_of HT_.out (by kernel_rfl)) (fun _ _ _ h => h) (Or.inl ⟨by rfl, ?_⟩) ?_ ?_
        rotate_left
        · intro w'
          go_simp
          with_reducible rfl
        rotate_left
        · simp only [Act.put, List.setIfInBounds_toArray, List.set_cons_zero, List.set_cons_succ, i64_w, i32_w]
          rfl
        refine pure_ (i := 7) (N := some 66) (v := ?_) (a' := ?_) #[true, true, true, true, true, false, true, true, false, false, false, false, false, false, false, false] rfl rfl (any_of HT_.out (by kernel_rfl)) (fun _ _ _ h => h) (Or.inl ⟨by rfl, ?_⟩) ?_ ?_
        rotate_left
        · intro w'
          go_simp
          with_reducible rfl
        rotate_left
        · simp only [Act.put, List.setIfInBounds_toArray, List.set_cons_zero, List.set_cons_succ, i64_w, i32_w]
          rfl
        refine pure_ (i := 8) (N := some 67) (v := ?_) (a' := ?_) #[true, true, true, true, true, false, true, true, true, false, false, false, false, false, false, false] rfl rfl (any_of HT_.out (by kernel_rfl)) (fun _ _ _ h => h) (Or.inl ⟨by rfl, ?_⟩) ?_ ?_
        rotate_left
        · intro w'
          go_simp
          with_reducible rfl
        rotate_left
        · simp only [Act.put, List.setIfInBounds_toArray, List.set_cons_zero, List.set_cons_succ, i64_w, i32_w]
          rfl
        refine pure_ (i := 10) (N := some 69) (v := ?_) (a' := ?_) #[true, true, true, true, true, false, true, true, true, false, true, false, false, false, false, false] rfl rfl (any_of HT_.out (by kernel_rfl)) (fun _ _ _ h => h) (Or.inl ⟨by rfl, ?_⟩) ?_ ?_
        rotate_left
        · intro w'
          go_simp
          with_reducible rfl
        rotate_left
        · simp only [Act.put, List.setIfInBounds_toArray, List.set_cons_zero, List.set_cons_succ, i64_w, i32_w]
          rfl
        refine take_ (i := 5) (N := some 64) (v := ?_) (a' := ?_) #[true, true, true, true, true, true, true, true, true, false, true, false, false, false, false, false] rfl rfl (take_ofW HT_.out HW_.out (by kernel_rfl)) (fun _ _ _ h => h) (Or.inl ⟨by rfl, ?_⟩) hHeld ?_ ?_
        rotate_left
        · rintro w' ⟨s0, s1, s2⟩
          go_simp
          with_reducible rfl
        rotate_left
        · simp only [Act.put, List.setIfInBounds_toArray, List.set_cons_zero, List.set_cons_succ, i64_w, i32_w]
          rfl
        refine take_ (i := 9) (N := some 68) (v := ?_) (a' := ?_) #[true, true, true, true, true, true, true, true, true, true, true, false, false, false, false, false] rfl rfl (take_ofW HT_.out HW_.out (by kernel_rfl)) (fun _ _ _ h => h) (Or.inl ⟨by rfl, ?_⟩) hHeld ?_ ?_
        rotate_left
        · rintro w' ⟨s0, s1, s2⟩
          go_simp
          with_reducible rfl
        rotate_left
        · simp only [Act.put, List.setIfInBounds_toArray, List.set_cons_zero, List.set_cons_succ, i64_w, i32_w]
          rfl
        refine pure_ (i := 11) (N := some 70) (v := ?_) (a' := ?_) #[true, true, true, true, true, true, true, true, true, true, true, true, false, false, false, false] rfl rfl (any_of HT_.out (by kernel_rfl)) (fun _ _ _ h => h) (Or.inl ⟨by rfl, ?_⟩) ?_ ?_
        rotate_left
        · intro w'
          go_simp
          with_reducible rfl
        rotate_left
        · simp only [Act.put, List.setIfInBounds_toArray, List.set_cons_zero, List.set_cons_succ, i64_w, i32_w]
          rfl
        refine take_ (i := 12) (N := some 71) (v := ?_) (a' := ?_) #[true, true, true, true, true, true, true, true, true, true, true, true, true, false, false, false] rfl rfl (take_ofW HT_.out HW_.out (by kernel_rfl)) (fun _ _ _ h => h) (Or.inl ⟨by rfl, ?_⟩) hHeld ?_ ?_
        rotate_left
        · rintro w' ⟨s0, s1, s2⟩
          go_simp
          with_reducible rfl
        rotate_left
        · simp only [Act.put, List.setIfInBounds_toArray, List.set_cons_zero, List.set_cons_succ, i64_w, i32_w]
          rfl
        refine one_ (i := 13) (N := some 72) #[true, true, true, true, true, true, true, true, true, true, true, true, true, true, false, false] rfl rfl (one_of HT_.out (by kernel_rfl)) (by decide) (fun K hK => ?_)
        refine goes_ Try.func56 (by kernel_rfl) rfl #[.pointer (some ⟨ba, 0, none⟩), .int .i64 nx] (by rfl) rfl rfl (by (try simp only [List.map_toArray, List.map_cons, List.map_nil]); first | done | rfl) ?_
        refine (autoEnds_calls ba g8 S nx _ (hAt8'.out.below ((Below.refl _ _).drew)) okS'.out hnr).mono ?_
        rintro e w9 ⟨A9, c9, rfl, ho9, hb9⟩
        refine ⟨_, rfl, ?_⟩
        have hb9x : Below w8.heap.size w8 w9 := ((Below.refl _ _).drew).trans hb9
        refine hK.out _ _ ⟨(hb9x.cell (p := ⟨bm, 0, none⟩) (World.block_lt_of_cell? w8 _ c0)).trans c0, (hb9x.cell (p := ⟨bm, 1, none⟩) (World.block_lt_of_cell? w8 _ c1)).trans c1, (hb9x.cell (p := ⟨ga, i, none⟩) (World.block_lt_of_cell? w8 _ d1)).trans d1⟩ (fun hHeld => ?_)
        clear hK K
        refine norm_ (a' := ?_) ?_ ?_
        rotate_left
        · show Act.put _ (some 72) _ = _
          simp only [Act.put, List.setIfInBounds_toArray, List.set_cons_zero, List.set_cons_succ, i64_w, i32_w]
          rfl
        refine pure_ (i := 14) (N := some 73) (v := ?_) (a' := ?_) #[true, true, true, true, true, true, true, true, true, true, true, true, true, true, true, false] rfl rfl (any_of HT_.out (by kernel_rfl)) (fun _ _ _ h => h) (Or.inl ⟨by rfl, ?_⟩) ?_ ?_
        rotate_left
        · intro w'
          go_simp
          with_reducible rfl
        rotate_left
        · simp only [Act.put, List.setIfInBounds_toArray, List.set_cons_zero, List.set_cons_succ, i64_w, i32_w]
          rfl
        refine last_ (i := 15) (N := none) #[true, true, true, true, true, true, true, true, true, true, true, true, true, true, true, true] rfl rfl (one_of HT_.out (by kernel_rfl)) (by decide) (fun K hK => ?_)
        have hO9 := Lib.hid (hO8.out.mods (Nat.le_refl _) (Mods.of_below (S := fun _ => False) hb9x) (fun _ _ h => h))
        have ho9' := Lib.hid ho9
        have hb9' := Lib.hid hb9x
        obtain ⟨v9, z9, f9⟩ := hO9.out.cell hlt
        refine skip_ (w1 := ?_) (by rfl) rfl ?_ ?_
        rotate_left
        · go_simp
          rfl
        refine hK.out _ _ ?_
        clear hK K
        refine done_ (done_of HT_.out (by kernel_rfl)) ?_
        have hM9 := hM8.out.below hb9'.out
        have hmo : Mods (fun k => k = w.heap.size) w9 (w9.setCell ⟨w.heap.size, i, none⟩ (.slice A9 (S.ends nx).length c9)) := Mods.setCell w9 ⟨w.heap.size, i, none⟩ _ rfl
        have hsz8 : w.heap.size < w8.heap.size := hO8.out.lt
        have hM10 := Lib.hid (hM9.mods hmo (fun k _ hk e => by
          have h1 := hRlt'.out k hk
          omega))
        have hO10 := Lib.hid (hO9.out.set hlt (l := S.ends nx) (A := A9) (c := c9) (ho9'.out.mono (fun k hk h => by
          have h1 : w8.heap.size ≤ k := h
          exact ⟨by omega, by omega⟩)))
        have hmod10 : Hid (Mods (fun k => k = ga) w (w9.setCell ⟨w.heap.size, i, none⟩ (.slice A9 (S.ends nx).length c9))) := Lib.hid (((hmod.trans hm8'.out (fun _ _ h => h)).trans (Mods.of_below (S := fun k => k = ga) hb9'.out) (fun _ _ h => h)).trans hmo (fun k hk e => by omega))
        generalize w9.setCell ⟨w.heap.size, i, none⟩ (.slice A9 (S.ends nx).length c9) = w10 at hM10 hO10 hmod10 ⊢
        have hO11 : Hid (OutRow w10 w.heap.size w.heap.size n (outUpto S at_ l (i + 1))) := Lib.hid (hO10.out.congr (fun j hj => by rw [hou'.out, hso'.out]))
        clear hHeld hM9 hmo ho9 z9 f9 c0 c1 c3 d1
        go_wp2_with fail
        go_roundw
        case rel => exact ⟨i + 1, by go_num, by omega, hM10.out, hO11.out, hmod10.out⟩
        case measure => simp [intOf]; omega
    · obtain rfl : i = n := by omega
      have hall := atUpto_all (S := S) hlen'.out
      have hMf := hMi'.out
      rw [← hatn'.out, hall] at hMf
      obtain ⟨c0, c1, c2, c3⟩ := hMf.cells
      have q2 := c3 2
      have hMf' := Lib.hid hMf
      have hrw : IntKind.i64.wrap ((rows : Int) + 1) = ((rows + 1 : Nat) : Int) := by rw [IntWalk.i64_in _ (by omega)]; rfl
      clear hall hMf c3 c0 c1
      go_wp2_with fail
      go_ret2
      have hol : (List.zipWith (stepOut S) at_ l).length = i := by have := hn'.out; have := hatn'.out; simp [List.length_zipWith]; omega
      have hmb : Mods (fun k => k = bm) wr (wr.setCell ⟨bm, 2, none⟩ (.int .i64 ((rows : Int) + 1))) := Mods.setCell wr ⟨bm, 2, none⟩ _ rfl
      have hOf : OutRow (wr.setCell ⟨bm, 2, none⟩ (.int .i64 ((rows : Int) + 1))) w.heap.size w.heap.size (List.zipWith (stepOut S) at_ l).length (fun j => (List.zipWith (stepOut S) at_ l).getD j []) := by
        rw [hol]
        refine (hOi'.out.mods (Nat.le_refl _) hmb (fun k hk e => by omega)).congr (fun j hj => ?_)
        have h1 : j < at_.length := by rw [hatn'.out]; exact hj
        have h2 : j < l.length := by rw [hn'.out]; exact hj
        have h3 : (List.zipWith (stepOut S) at_ l)[j]? = some (stepOut S at_[j] l[j]) := by simp [List.getElem?_zipWith, h1, h2]
        simp [outUpto, hj, h1, h2, h3]
      have hFf := hOf.F (Nat.le_refl _) (by rw [hol]; omega)
      rw [hol] at hFf
      refine ⟨w.heap.size, rfl, hFf, ⟨ba, ga, cap, ?_, hMf'.out.auto.mods hmb (fun k hk e => hk.2.1 e), hMf'.out.row.move (Below.heap_setCell _ _ _ _ (fun e => hMf'.out.ne e.symm)), hMf'.out.ne, hMf'.out.bm, hMf'.out.ga⟩, ?_⟩
      · have hb := hMf'.out.block
        simp [World.setCell, Array.getElem?_modify, hb]
      · exact (hmod.mono (S' := fun k => R k ∧ k < w.heap.size) (fun k hk e => ⟨e ▸ hRga'.out, hk⟩)).trans hmb (fun k hk e => ⟨e ▸ hMf'.out.bm, hk⟩)
end Go.Proofs.Ytlkiajepahkliaa
