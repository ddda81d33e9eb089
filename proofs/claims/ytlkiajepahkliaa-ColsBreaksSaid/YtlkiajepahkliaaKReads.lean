/- Rows that are read, in this proof's words and in the print's. What cols asks of its columns and rows: slices.Min, slices.ContainsFunc at its two tests, may. -/
import Derived.Test.YtlkiajepahkliaaKTreeA
import Derived.Test.YtlkiajepahkliaaWMore
import Derived.WalkLawsBesides
namespace Go.Proofs.Ytlkiajepahkliaa
open Go.RowKit Go.Proofs.YtlkiajepahkliaaW.PrintWords
set_option linter.unusedVariables false

theorem addr_add_spot (a : Addr) (n : Nat) (h : a.spot = none) : a.add n = ⟨a.block, a.off + n, none⟩ := by
  unfold Addr.add
  split
  · rename_i h1; subst h1; cases a; simp at h; subst h; rfl
  · cases a; rfl
theorem spot_of_cell {w : World} {a : Addr} {v : Value} (h : w.cell? a = some v) : a.spot = none := by
  unfold World.cell? at h
  split at h
  · split at h
    · cases h
    · rename_i h1; simpa using h1
  · cases h

theorem C_cells {w : World} {k : IntKind} {A : Option Addr} {l : List Int} (h : (Kd.int k).C w A l.length l) (hl : 0 < l.length) : ∃ b off, A = some ⟨b, off, none⟩ ∧ ∀ i, i < l.length → w.cell? ⟨b, off + i, none⟩ = some (.int k (l.getD i 0)) := by
  obtain ⟨_, _, h3⟩ := h
  obtain ⟨ad, hA, hc⟩ := h3 hl
  have hcell : ∀ i, i < l.length → w.cell? (ad.add i) = some (.int k (l.getD i 0)) := fun i hi => by
    obtain ⟨c, h4, h5, h6⟩ := hc i (l.getD i 0) (by simp [hi])
    have h7 : c = [.int k (l.getD i 0)] := h5
    have h8 := h6 0 (.int k (l.getD i 0)) (by rw [h7]; rfl)
    have h9 : (Kd.int k).sz = 1 := rfl
    rw [h9, Nat.mul_one, Nat.add_zero] at h8
    exact h8
  have h0 := hcell 0 hl
  have hs : ad.spot = none := by
    have : ad.add 0 = ad := by simp [Addr.add]
    rw [this] at h0
    exact spot_of_cell h0
  refine ⟨ad.block, ad.off, ?_, fun i hi => ?_⟩
  · rw [hA]; cases ad; simp at hs; subst hs; rfl
  · rw [← addr_add_spot ad i hs]; exact hcell i hi

theorem intRow_of_C {w : World} {k : IntKind} {A : Option Addr} {c : Nat} {l : List Int} (h : (Kd.int k).C w A l.length l) (hc : l.length ≤ c) : IntRow w k (.slice A l.length c) l := by
  refine ⟨A, c, rfl, hc, ?_⟩
  rcases Nat.eq_zero_or_pos l.length with h0 | h0
  · exact .inl h0
  · obtain ⟨b, off, hA, hcell⟩ := C_cells h h0
    exact .inr ⟨b, off, hA, hcell⟩

theorem C_of_intRow {w : World} {k : IntKind} {v : Value} {l : List Int} (h : IntRow w k v l) (hl : l.length ≤ 9223372036854775807) : ∃ A c, v = .slice A l.length c ∧ l.length ≤ c ∧ (Kd.int k).C w A l.length l := by
  obtain ⟨A, c, hv, hc, hr⟩ := h
  refine ⟨A, c, hv, hc, rfl, hl, fun hn => ?_⟩
  rcases hr with h0 | ⟨b, off, hA, hcell⟩
  · omega
  · refine ⟨_, hA, fun j p hj => ⟨[.int k p], rfl, rfl, fun i u hu => ?_⟩⟩
    have hjl : j < l.length := (List.getElem?_eq_some_iff.1 hj).1
    cases i with
    | zero =>
      have : u = .int k p := by simpa using hu.symm
      rw [this]
      have h9 : (Kd.int k).sz = 1 := rfl
      rw [h9, Nat.mul_one, Nat.add_zero, addr_add, hcell j hjl]
      rw [List.getD_eq_getElem?_getD, hj]; rfl
    | succ i => simp at hu

/-- A row of the call's own, as the print reads it, with its footprint. -/
theorem F_of_own {w : World} {k : IntKind} {e : TypeId} {A : Option Addr} {c : Nat} {l : List Int} {S : Nat → Prop} (h : Own w e 1 (.slice A l.length c) l.length (l.map (.int k)) S) : Kd.F (Kd.int k) w S A l.length l := by
  intro W' hW
  have h1 : Own W' e 1 (.slice A l.length c) l.length (l.map (.int k)) S := h.move (fun q hq hS => hW q hS hq)
  have hm : l.length ≤ 9223372036854775807 := by
    obtain ⟨_, c', hv, hc, hm, _⟩ := h1.shape
    simp only [maxLen] at hm
    omega
  obtain ⟨A', c', hv, _, hC⟩ := C_of_intRow (IntRow.of_own h1) hm
  injection hv with hA
  rw [hA]; exact hC
theorem own_cap {w : World} {e : TypeId} {n size : Nat} {A : Option Addr} {c : Nat} {xs : List Value} {S : Nat → Prop} (h : Own w e size (.slice A n c) n xs S) : n ≤ c ∧ c ≤ maxLen := by
  obtain ⟨_, c', hv, hc, hm, _⟩ := h.shape
  injection hv with _ _ h3
  subst h3
  exact ⟨hc, hm⟩

/-- An element of a row of rows. -/
theorem rows_get {w : World} {e : Nat} {k : IntKind} {A : Option Addr} {ls : List (List Int)} (h : (Kd.slice e (Kd.int k)).C w A ls.length ls) {i : Nat} (hi : i < ls.length) :
    ∃ b off A' c', A = some ⟨b, off, none⟩ ∧ w.cell? ⟨b, off + i, none⟩ = some (.slice A' (ls.getD i []).length c') ∧ (ls.getD i []).length ≤ c' ∧ (Kd.int k).C w A' (ls.getD i []).length (ls.getD i []) := by
  have hsz : (Kd.slice e (Kd.int k)).sz = 1 := rfl
  have hget := fun (j : Nat) (hj : j < ls.length) => Kd.C_get h [] (j : Int) (by omega) (by omega)
  obtain ⟨ad, c, hA, hcl, hK, hcell⟩ := hget i hi
  obtain ⟨ad0, c0, hA0, hcl0, hK0, hcell0⟩ := hget 0 (by omega)
  rw [Int.toNat_natCast] at hK hcell hK0 hcell0
  obtain ⟨A', c', rfl, h2, h3⟩ := hK
  obtain ⟨A0', c0', rfl, _, _⟩ := hK0
  have e0 : ad0 = ad := by rw [hA] at hA0; injection hA0 with h; exact h.symm
  subst e0
  have h0 := hcell0 0 _ rfl
  rw [hsz] at h0 hcell
  have hs : ad0.spot = none := spot_of_cell (by simpa [Addr.add] using h0)
  have h4 := hcell 0 _ rfl
  rw [Nat.mul_one, Nat.add_zero, addr_add_spot ad0 i hs] at h4
  exact ⟨ad0.block, ad0.off, A', c', by rw [hA]; cases ad0; simp at hs; subst hs; rfl, h4, h2, h3⟩
end Go.Proofs.Ytlkiajepahkliaa

namespace Go.Proofs.Ytlkiajepahkliaa
open Go.RowKit Go.Proofs.YtlkiajepahkliaaW.PrintWords
set_option linter.unusedVariables false
set_option linter.unusedSimpArgs false

/-- The least of numbers, from m on. -/
def minI (a b : Int) : Int := if b < a then b else a
def minFrom (m : Int) (l : List Int) : Int := l.foldl minI m
theorem minFrom_neg (l : List Int) : ∀ m, minFrom m l < 0 ↔ (m < 0 ∨ ∃ x ∈ l, x < 0) := by
  induction l with
  | nil => intro m; simp [minFrom]
  | cons a l ih =>
    intro m
    show minFrom (minI m a) l < 0 ↔ _
    rw [ih]
    have : minI m a < 0 ↔ (m < 0 ∨ a < 0) := by unfold minI; split <;> omega
    rw [this]
    simp [or_assoc]

/-- A column that may not be. -/
def oddB (l : List Int) : Bool := decide (l = [] ∨ ∃ x ∈ l, x < 0)
/-- A row's number that may not be. -/
def negB (n : Int) : Bool := decide (n < -1)

theorem ret_bool' {a b : Bool} (h : a = b) : Ending.returned (.bool a) = .returned (.bool b) := by rw [h]

set_option maxHeartbeats 1000000 in
theorem min_calls (A : Option Addr) (c : Nat) (l : List Int) (w : World) (hr : (Kd.int .i64).C w A l.length l) (hc : l.length ≤ c) (h0 : 0 < l.length) (hm : l.length ≤ 1099511627776) :
    Calls Try.prog 48 #[.slice A l.length c] w fun e w' => e = .returned (.int .i64 (minFrom (l.getD 0 0) l)) ∧ w = w' := by
  obtain ⟨b, off, rfl, hcell⟩ := C_cells hr h0
  have hcell' := Lib.hid hcell
  have c0 := hcell 0 h0
  obtain ⟨x0, hx0⟩ : ∃ x0, l.getD 0 0 = x0 := ⟨_, rfl⟩
  rw [hx0, Nat.add_zero] at c0
  have hx0' := Lib.hid hx0
  rw [hx0]
  clear hr hcell hx0
  go_enter Try.func48, Try.ntmps48
  go_wp2_with fail
  go_loop [3, 4] (fun m i => ∃ (k : Nat) (y : Int), i = .int .i64 k ∧ m = .int .i64 y ∧ 1 ≤ k ∧ k ≤ l.length ∧ minFrom y (l.drop k) = minFrom x0 l) (fun _ i => l.length - (intOf i).toNat)
  case atStart =>
    refine ⟨1, x0, rfl, rfl, Nat.le_refl _, h0, ?_⟩
    obtain ⟨a, t, rfl⟩ : ∃ a t, l = a :: t := List.exists_cons_of_length_pos h0
    have : a = x0 := by simpa using hx0'.out
    subst this
    show _ = minFrom (minI a a) t
    have : minI a a = a := by unfold minI; split <;> rfl
    rw [this]; rfl
  case round =>
    obtain ⟨k, y, rfl, rfl, hk1, hk, hy⟩ := hrel
    have hy' := Lib.hid hy
    clear hy
    by_cases hlt : k < l.length
    · have c1 := hcell'.out k hlt
      obtain ⟨x, hx⟩ : ∃ x, l.getD k 0 = x := ⟨_, rfl⟩
      rw [hx] at c1
      have hd : l.drop k = x :: l.drop (k + 1) := by rw [List.drop_eq_getElem_cons hlt, ← hx]; simp [hlt]
      have hd' := Lib.hid hd
      clear hx hd
      by_cases hlt2 : x < y
      all_goals
        go_wp2_with fail
        all_goals
          go_round
          case rel =>
            refine ⟨k + 1, minI y x, by go_num, ?_, by omega, by omega, ?_⟩
            · simp [minI, hlt2]
            · have := hy'.out; rw [hd'.out] at this; exact this
          case measure => simp [intOf]; omega
    · obtain rfl : k = l.length := by omega
      have hfin := hy'.out
      rw [List.drop_length] at hfin
      have hfin' := Lib.hid hfin
      clear hfin hy'
      go_wp2_with fail
      go_ret
      exact ⟨ret_int hfin'.out, rfl⟩

set_option maxHeartbeats 1000000 in
theorem odd_calls (A : Option Addr) (c : Nat) (l : List Int) (w : World) (hr : (Kd.int .i64).C w A l.length l) (hc : l.length ≤ c) (hm : l.length ≤ 1099511627776) :
    Calls Try.prog 47 #[.slice A l.length c] w fun e w' => e = .returned (.bool (oddB l)) ∧ w = w' := by
  have hr' := Lib.hid hr
  clear hr
  rcases Nat.eq_zero_or_pos l.length with h0 | h0
  · have hl0 : l = [] := List.eq_nil_of_length_eq_zero h0
    subst hl0
    clear h0
    go_enter Try.func47, Try.ntmps47
    go_wp2_with fail
    go_ret
    exact ⟨ret_bool rfl, rfl⟩
  · have hb : ((l.length : Int) == 0) = false := by simpa using (by intro h; subst h; simp at h0 : l ≠ [])
    have hodd : oddB l = decide (minFrom (l.getD 0 0) l < 0) := by
      unfold oddB
      rw [decide_eq_decide, minFrom_neg]
      obtain ⟨a, t, rfl⟩ : ∃ a t, l = a :: t := List.exists_cons_of_length_pos h0
      simp only [List.getD_cons_zero, List.mem_cons]
      constructor
      · rintro (h | h)
        · cases h
        · exact .inr h
      · rintro (h | h)
        · exact .inr ⟨a, .inl rfl, h⟩
        · exact .inr h
    obtain ⟨m, hmn⟩ : ∃ m, minFrom (l.getD 0 0) l = m := ⟨_, rfl⟩
    rw [hmn] at hodd
    have hmn' := Lib.hid hmn
    have hodd' := Lib.hid hodd
    clear hodd hmn
    go_enter Try.func47, Try.ntmps47
    go_wp2_with fail
    refine (min_calls A c l _ hr'.out hc h0 hm).mono ?_
    rintro e w' ⟨rfl, rfl⟩
    rw [hmn'.out]
    go_wp2_with fail
    go_ret
    exact ⟨ret_bool hodd'.out.symm, rfl⟩

set_option maxHeartbeats 1000000 in
theorem neg_calls (n : Int) (w : World) :
    Calls Try.prog 54 #[.int .i64 n] w fun e w' => e = .returned (.bool (negB n)) ∧ w = w' := by
  go_enter Try.func54, Try.ntmps54
  go_wp2_with fail
  go_ret
  exact ⟨ret_bool rfl, rfl⟩

/-- Where the first one stands that is so; -1. -/
def firstI {α : Type} (p : α → Bool) (i : Nat) : List α → Int
  | [] => -1
  | x :: l => if p x = true then i else firstI p (i + 1) l
theorem firstI_iff {α : Type} (p : α → Bool) (l : List α) : ∀ i, 0 ≤ firstI p i l ↔ l.any p = true := by
  induction l with
  | nil => intro i; simp [firstI]
  | cons x l ih =>
    intro i
    simp only [firstI, List.any_cons]
    by_cases h : p x = true
    · simp [h]
    · have h2 : p x = false := by simpa using h
      rw [if_neg h, ih, h2, Bool.false_or]
theorem firstI_nonneg {α : Type} (p : α → Bool) (l : List α) (i : Nat) : decide (0 ≤ firstI p i l) = l.any p := by
  rw [Bool.eq_iff_iff, decide_eq_true_iff, firstI_iff]

set_option maxHeartbeats 2000000 in
theorem indexOdd_calls (A : Option Addr) (c : Nat) (ls : List (List Int)) (w : World) (hr : (Kd.slice 3 (Kd.int .i64)).C w A ls.length ls) (hc : ls.length ≤ c) (hm : ls.length ≤ 1099511627776) (hl : ∀ l ∈ ls, l.length ≤ 1099511627776) :
    Calls Try.prog 76 #[.slice A ls.length c, .func (.func 47) #[] #[]] w fun e w' => e = .returned (.int .i64 (firstI oddB 0 ls)) ∧ w = w' := by
  have hr' := Lib.hid hr
  have hl' := Lib.hid hl
  clear hr hl
  go_enter Try.func76, Try.ntmps76
  go_wp2_with fail
  go_loop [8] (fun i => ∃ k : Nat, i = .int .i64 k ∧ k ≤ ls.length ∧ firstI oddB k (ls.drop k) = firstI oddB 0 ls) (fun i => ls.length - (intOf i).toNat)
  case atStart => exact ⟨0, rfl, Nat.zero_le _, rfl⟩
  case round =>
    obtain ⟨k, rfl, hk, hf⟩ := hrel
    have hf' := Lib.hid hf
    clear hf
    by_cases hlt : k < ls.length
    · obtain ⟨b, off, A', c', rfl, hcell, hc', hrow⟩ := rows_get hr'.out hlt
      have hlen := hl'.out (ls.getD k []) (by rw [List.getD_eq_getElem?_getD, List.getElem?_eq_getElem hlt]; exact List.getElem_mem hlt)
      obtain ⟨x, hx⟩ : ∃ x, ls.getD k [] = x := ⟨_, rfl⟩
      rw [hx] at hcell hc' hrow hlen
      have hd : ls.drop k = x :: ls.drop (k + 1) := by rw [List.drop_eq_getElem_cons hlt, ← hx]; simp [hlt]
      have hstep := hf'.out
      rw [hd, firstI] at hstep
      have hstep' := Lib.hid hstep
      have hrow' := Lib.hid hrow
      clear hx hd hstep hrow
      by_cases ho : oddB x = true
      · have ho' := Lib.hid ho
        clear ho
        go_wp2_with fail
        refine (odd_calls A' c' x _ hrow'.out hc' hlen).mono ?_
        rintro e w' ⟨rfl, rfl⟩
        rw [ho'.out]
        go_wp2_with fail
        go_ret
        exact ⟨ret_int (by rw [← hstep'.out, if_pos ho'.out]), rfl⟩
      · have ho' : Hid (oddB x = false) := Lib.hid (by simpa using ho)
        clear ho
        go_wp2_with fail
        refine (odd_calls A' c' x _ hrow'.out hc' hlen).mono ?_
        rintro e w' ⟨rfl, rfl⟩
        rw [ho'.out]
        go_wp2_with fail
        go_round
        case rel => exact ⟨k + 1, by go_num, by omega, by rw [← hstep'.out, if_neg (by rw [ho'.out]; simp)]⟩
        case measure => simp [intOf]; omega
    · obtain rfl : k = ls.length := by omega
      have hfin := hf'.out
      rw [List.drop_length] at hfin
      have hfin' := Lib.hid hfin
      clear hfin hf'
      go_wp2_with fail
      go_ret
      exact ⟨ret_int hfin'.out, rfl⟩

set_option maxHeartbeats 1000000 in
theorem anyOdd_calls (A : Option Addr) (c : Nat) (ls : List (List Int)) (w : World) (hr : (Kd.slice 3 (Kd.int .i64)).C w A ls.length ls) (hc : ls.length ≤ c) (hm : ls.length ≤ 1099511627776) (hl : ∀ l ∈ ls, l.length ≤ 1099511627776) :
    Calls Try.prog 49 #[.slice A ls.length c, .func (.func 47) #[] #[]] w fun e w' => e = .returned (.bool (ls.any oddB)) ∧ w = w' := by
  have hr' := Lib.hid hr
  have hl' := Lib.hid hl
  clear hr hl
  go_enter Try.func49, Try.ntmps49
  go_wp2_with fail
  refine (indexOdd_calls A c ls _ hr'.out hc hm hl'.out).mono ?_
  rintro e w' ⟨rfl, rfl⟩
  go_wp2_with fail
  go_ret
  exact ⟨ret_bool (firstI_nonneg _ _ _), rfl⟩

set_option maxHeartbeats 2000000 in
theorem indexNeg_calls (A : Option Addr) (c : Nat) (l : List Int) (w : World) (hr : (Kd.int .i64).C w A l.length l) (hc : l.length ≤ c) (hm : l.length ≤ 1099511627776) :
    Calls Try.prog 84 #[.slice A l.length c, .func (.func 54) #[] #[]] w fun e w' => e = .returned (.int .i64 (firstI negB 0 l)) ∧ w = w' := by
  have hr' := Lib.hid hr
  clear hr
  go_enter Try.func84, Try.ntmps84
  go_wp2_with fail
  go_loop [8] (fun i => ∃ k : Nat, i = .int .i64 k ∧ k ≤ l.length ∧ firstI negB k (l.drop k) = firstI negB 0 l) (fun i => l.length - (intOf i).toNat)
  case atStart => exact ⟨0, rfl, Nat.zero_le _, rfl⟩
  case round =>
    obtain ⟨k, rfl, hk, hf⟩ := hrel
    have hf' := Lib.hid hf
    clear hf
    by_cases hlt : k < l.length
    · obtain ⟨b, off, rfl, hcells⟩ := C_cells hr'.out (by omega)
      have hcell := hcells k hlt
      obtain ⟨x, hx⟩ : ∃ x, l.getD k 0 = x := ⟨_, rfl⟩
      rw [hx] at hcell
      have hd : l.drop k = x :: l.drop (k + 1) := by rw [List.drop_eq_getElem_cons hlt, ← hx]; simp [hlt]
      have hstep := hf'.out
      rw [hd, firstI] at hstep
      have hstep' := Lib.hid hstep
      clear hx hd hstep hcells
      by_cases ho : negB x = true
      · have ho' := Lib.hid ho
        clear ho
        go_wp2_with fail
        refine (neg_calls x _).mono ?_
        rintro e w' ⟨rfl, rfl⟩
        rw [ho'.out]
        go_wp2_with fail
        go_ret
        exact ⟨ret_int (by rw [← hstep'.out, if_pos ho'.out]), rfl⟩
      · have ho' : Hid (negB x = false) := Lib.hid (by simpa using ho)
        clear ho
        go_wp2_with fail
        refine (neg_calls x _).mono ?_
        rintro e w' ⟨rfl, rfl⟩
        rw [ho'.out]
        go_wp2_with fail
        go_round
        case rel => exact ⟨k + 1, by go_num, by omega, by rw [← hstep'.out, if_neg (by rw [ho'.out]; simp)]⟩
        case measure => simp [intOf]; omega
    · obtain rfl : k = l.length := by omega
      have hfin := hf'.out
      rw [List.drop_length] at hfin
      have hfin' := Lib.hid hfin
      clear hfin hf'
      go_wp2_with fail
      go_ret
      exact ⟨ret_int hfin'.out, rfl⟩

set_option maxHeartbeats 1000000 in
theorem anyNeg_calls (A : Option Addr) (c : Nat) (l : List Int) (w : World) (hr : (Kd.int .i64).C w A l.length l) (hc : l.length ≤ c) (hm : l.length ≤ 1099511627776) :
    Calls Try.prog 53 #[.slice A l.length c, .func (.func 54) #[] #[]] w fun e w' => e = .returned (.bool (l.any negB)) ∧ w = w' := by
  have hr' := Lib.hid hr
  clear hr
  go_enter Try.func53, Try.ntmps53
  go_wp2_with fail
  refine (indexNeg_calls A c l _ hr'.out hc hm).mono ?_
  rintro e w' ⟨rfl, rfl⟩
  go_wp2_with fail
  go_ret
  exact ⟨ret_bool (firstI_nonneg _ _ _), rfl⟩

/-- So many places may be. -/
def placesB (n : Int) : Bool := decide (0 ≤ n ∧ n ≤ 4096)
set_option maxHeartbeats 1000000 in
theorem colsMay_calls (n : Int) (w : World) :
    Calls Try.prog 46 #[.int .i64 n] w fun e w' => e = .returned (.bool (placesB n)) ∧ w = w' := by
  by_cases h0 : 0 ≤ n
  · have hd : placesB n = decide (n ≤ 4096) := by simp [placesB, h0]
    have hd' := Lib.hid hd
    clear hd
    go_enter Try.func46, Try.ntmps46
    go_wp2_with fail
    go_ret
    exact ⟨ret_bool hd'.out.symm, rfl⟩
  · have hd : placesB n = false := by simp [placesB, h0]
    have hd' := Lib.hid hd
    clear hd
    go_enter Try.func46, Try.ntmps46
    go_wp2_with fail
    go_ret
    exact ⟨ret_bool hd'.out.symm, rfl⟩
end Go.Proofs.Ytlkiajepahkliaa
