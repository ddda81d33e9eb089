/- The document's columns and rows (Small, Row), as plain data. -/
import Derived.Test.YtlkiajepahkliaaKColsMore
import Derived.Test.YtlkiajepahkliaaPSmallx1
import Derived.Test.YtlkiajepahkliaaPRowx1
namespace Go.Proofs.Ytlkiajepahkliaa
open Go.RowKit Go.Proofs.YtlkiajepahkliaaW.PrintWords
set_option linter.unusedVariables false
set_option linter.unusedSimpArgs false

/-- Columns as Small makes them. -/
structure SmallOk (ls : List (List Int)) : Prop where
  few : ls.length ≤ 6
  each : ∀ l ∈ ls, l ≠ [] ∧ l.length ≤ 4 ∧ ∀ x ∈ l, 0 ≤ x ∧ x ≤ 2

theorem SmallOk.cols {ls : List (List Int)} (h : SmallOk ls) : ColsOk ls := by
  refine ⟨by have := h.few; omega, fun l hl => ⟨(h.each l hl).1, by have := (h.each l hl).2.1; omega⟩, ?_⟩
  rw [List.any_eq_false]
  intro l hl ho
  unfold oddB at ho
  rw [decide_eq_true_iff] at ho
  rcases ho with ho | ⟨x, hx, hlt⟩
  · exact (h.each l hl).1 ho
  · have := ((h.each l hl).2.2 x hx).1; omega

theorem wrap_small (i : Nat) (h : i ≤ 1000000) : wrap64 ((i : Int) + 1) = ((i + 1 : Nat) : Int) := by unfold wrap64; omega
theorem tmod3 (x : Int) : 0 ≤ mx (Int.tmod x 3) (wrap64 (-(Int.tmod x 3))) ∧ mx (Int.tmod x 3) (wrap64 (-(Int.tmod x 3))) ≤ 2 := by
  have h1 := Int.tmod_lt_of_pos x (b := 3) (by omega)
  have h2 : -3 < Int.tmod x 3 := by
    have := Int.lt_tmod_of_pos x (b := 3) (by omega)
    omega
  generalize Int.tmod x 3 = y at h1 h2
  have h3 : wrap64 (-y) = -y := by unfold wrap64; omega
  rw [h3]
  unfold mx
  split <;> omega

namespace Small17
open PSmall

theorem inner (x0 : List (List Int)) (i : Nat) (hi : i < x0.length) (hi6 : i < 6)
    (ih : ∀ x3, x3.length ≤ i + 1 → (∀ l ∈ x3, l ≠ [] ∧ l.length ≤ 4 ∧ ∀ x ∈ l, 0 ≤ x ∧ x ≤ 2) → ∃ k r, chequerref17_Small.l0 k x0 x3 ((i + 1 : Nat) : Int) = some r ∧ SmallOk r)
    (x3 : List (List Int)) (h3 : x3.length ≤ i) (hg : ∀ l ∈ x3, l ≠ [] ∧ l.length ≤ 4 ∧ ∀ x ∈ l, 0 ≤ x ∧ x ≤ 2) :
    ∀ (e j : Nat) (x5 : List Int), 4 - j = e → j ≤ 4 → x5.length ≤ j → (∀ x ∈ x5, 0 ≤ x ∧ x ≤ 2) → ∃ k r, chequerref17_Small.l1 k x0 x3 (i : Int) x5 (j : Int) = some r ∧ SmallOk r := by
  have fin : ∀ (x5 : List Int), x5.length ≤ 4 → (∀ x ∈ x5, 0 ≤ x ∧ x ≤ 2) → ∃ k r, (if (x5.length : Int) > 0 then (if x3.length < 5864062014805 then (chequerref17_Small.l0 k x0 (x3 ++ [x5]) (wrap64 ((i : Int) + 1))) else (none)) else (chequerref17_Small.l0 k x0 x3 (wrap64 ((i : Int) + 1)))) = some r ∧ SmallOk r := by
    intro x5 h5 hx
    rw [wrap_small i (by omega)]
    by_cases h0 : (x5.length : Int) > 0
    · obtain ⟨k, r, h, hr⟩ := ih (x3 ++ [x5]) (by simp; omega) (fun l hl => by
        rcases List.mem_append.1 hl with h | h
        · exact hg l h
        · have : l = x5 := by simpa using h
          subst this
          exact ⟨fun he => by subst he; simp at h0, h5, hx⟩)
      exact ⟨k, r, by rw [if_pos h0, if_pos (by omega)]; exact h, hr⟩
    · obtain ⟨k, r, h, hr⟩ := ih x3 (by omega) hg
      exact ⟨k, r, by rw [if_neg h0]; exact h, hr⟩
  intro e
  induction e with
  | zero =>
    intro j x5 he hj h5 hx
    obtain rfl : j = 4 := by omega
    obtain ⟨k, r, h, hr⟩ := fin x5 (by omega) hx
    refine ⟨k + 1, r, ?_, hr⟩
    rw [chequerref17_Small.l1, if_pos (by omega), if_pos (by omega)]
    by_cases hl : ((4 : Nat) : Int) < ((PSmall.rd_L1 x0 (i : Int)).length : Int)
    · rw [if_pos hl, if_neg (by omega)]; exact h
    · rw [if_neg hl]; exact h
  | succ e ihe =>
    intro j x5 he hj h5 hx
    by_cases hl : (j : Int) < ((PSmall.rd_L1 x0 (i : Int)).length : Int)
    · have ht := tmod3 (rd (PSmall.rd_L1 x0 (i : Int)) (j : Int))
      obtain ⟨k, r, h, hr⟩ := ihe (j + 1) (x5 ++ [mx (Int.tmod (rd (PSmall.rd_L1 x0 (i : Int)) (j : Int)) 3) (wrap64 (-(Int.tmod (rd (PSmall.rd_L1 x0 (i : Int)) (j : Int)) 3)))]) (by omega) (by omega) (by simp; omega) (fun x hx2 => by
        rcases List.mem_append.1 hx2 with h | h
        · exact hx x h
        · rw [List.mem_singleton] at h
          rw [h]; exact ht)
      refine ⟨k + 1, r, ?_, hr⟩
      rw [chequerref17_Small.l1, if_pos (by omega), if_pos (by omega), if_pos hl, if_pos (by omega), if_pos (by omega), if_pos (by omega), wrap_small j (by omega)]
      exact h
    · obtain ⟨k, r, h, hr⟩ := fin x5 (by omega) hx
      refine ⟨k + 1, r, ?_, hr⟩
      rw [chequerref17_Small.l1, if_pos (by omega), if_pos (by omega), if_neg hl]; exact h

theorem outer (x0 : List (List Int)) : ∀ (d i : Nat) (x3 : List (List Int)), 6 - i = d → i ≤ 6 → x3.length ≤ i → (∀ l ∈ x3, l ≠ [] ∧ l.length ≤ 4 ∧ ∀ x ∈ l, 0 ≤ x ∧ x ≤ 2) → ∃ k r, chequerref17_Small.l0 k x0 x3 (i : Int) = some r ∧ SmallOk r := by
  intro d
  induction d with
  | zero =>
    intro i x3 hd hi h3 hg
    obtain rfl : i = 6 := by omega
    refine ⟨2, x3, ?_, by omega, hg⟩
    rw [chequerref17_Small.l0]
    have hd6 : decide (((6 : Nat) : Int) < 6) = false := by decide
    rw [hd6]
    split <;> rfl
  | succ d ih =>
    intro i x3 hd hi h3 hg
    by_cases hl : (i : Int) < (x0.length : Int)
    · obtain ⟨k, r, h, hr⟩ := inner x0 i (by omega) (by omega) (fun x3 a b => ih (i + 1) x3 (by omega) (by omega) a b) x3 h3 hg 4 0 [] (by omega) (by omega) (by simp) (by simp)
      refine ⟨k + 2, r, ?_, hr⟩
      have hd6 : decide ((i : Int) < 6) = true := decide_eq_true (by omega)
      rw [chequerref17_Small.l0, if_pos hl, hd6, chequerref17_Small.j1, if_pos rfl]
      exact h
    · refine ⟨2, x3, ?_, by omega, hg⟩
      rw [chequerref17_Small.l0, if_neg hl]
      rfl
end Small17

theorem small17_spec (ls : List (List Int)) : ∃ k r, PSmall.chequerref17_Small.f k ls = some r ∧ SmallOk r := Small17.outer ls 6 0 [] rfl (by omega) (by simp) (by simp)

theorem tmod4 (x : Int) : -1 ≤ wrap64 (mx (Int.tmod x 4) (wrap64 (-(Int.tmod x 4))) - 1) := by
  have h1 := Int.tmod_lt_of_pos x (b := 4) (by omega)
  have h2 : -4 < Int.tmod x 4 := by
    have := Int.lt_tmod_of_pos x (b := 4) (by omega)
    omega
  generalize Int.tmod x 4 = y at h1 h2
  have h3 : wrap64 (-y) = -y := by unfold wrap64; omega
  rw [h3]
  unfold mx
  split <;> (unfold wrap64; omega)

namespace Row17
open PRow
theorem go (x0 : List Int) (p : Nat) (hp : p ≤ 1000) : ∀ (d i : Nat) (x5 : List Int), p - i = d → i ≤ p → x5.length = p → (∀ x ∈ x5, -1 ≤ x) → ∃ k r, chequerref17_Row.l0 k x0 (p : Int) x5 (i : Int) = some r ∧ r.length = p ∧ ∀ x ∈ r, -1 ≤ x := by
  intro d
  induction d with
  | zero =>
    intro i x5 hd hi h5 hg
    obtain rfl : i = p := by omega
    exact ⟨1, x5, by rw [chequerref17_Row.l0, if_neg (by omega)], h5, hg⟩
  | succ d ih =>
    intro i x5 hd hi h5 hg
    by_cases hl : (i : Int) < (x0.length : Int)
    · obtain ⟨k, r, h, hr⟩ := ih (i + 1) (x5.set i (wrap64 ((mx (Int.tmod (rd x0 (i : Int)) 4) (wrap64 (-(Int.tmod (rd x0 (i : Int)) 4)))) - 1))) (by omega) (by omega) (by simpa using h5) (fun x hx => by
        rcases List.mem_or_eq_of_mem_set hx with h | h
        · exact hg x h
        · rw [h]; exact tmod4 _)
      refine ⟨k + 1, r, ?_, hr⟩
      rw [chequerref17_Row.l0, if_pos (by omega), if_pos hl, if_pos (by omega), if_pos (by omega), wrap_small i (by omega), Int.toNat_natCast]
      exact h
    · obtain ⟨k, r, h, hr⟩ := ih (i + 1) x5 (by omega) (by omega) h5 hg
      refine ⟨k + 1, r, ?_, hr⟩
      rw [chequerref17_Row.l0, if_pos (by omega), if_neg hl, wrap_small i (by omega)]
      exact h
end Row17
theorem row17_spec (l : List Int) (p : Nat) (hp : p ≤ 1000) : ∃ k r, PRow.chequerref17_Row.f k l (p : Int) = some r ∧ r.length = p ∧ r.any negB = false := by
  obtain ⟨k, r, h, h1, h2⟩ := Row17.go l p hp p 0 (List.replicate p 0) (by omega) (by omega) (by simp) (fun x hx => by rw [(List.mem_replicate.1 hx).2]; omega)
  refine ⟨k, r, ?_, h1, ?_⟩
  · unfold PRow.chequerref17_Row.f
    rw [if_pos (by omega), Int.toNat_natCast, if_pos (by omega)]
    exact h
  · rw [List.any_eq_false]
    intro x hx hn
    unfold negB at hn
    rw [decide_eq_true_iff] at hn
    have := h2 x hx
    omega
end Go.Proofs.Ytlkiajepahkliaa
