/- An argument that is a row of rows of whole numbers, as a list. -/
import Derived.Test.YtlkiajepahkliaaKReads
import Derived.Deep.Matrix
namespace Go.Proofs.Ytlkiajepahkliaa
open Go.RowKit Go.Deep Go.Proofs.YtlkiajepahkliaaW.PrintWords
set_option linter.unusedVariables false

theorem open_rows {H : Type} {enc : TypeId × Value → H} {P : Program} {w : World} {base : Nat} {held : Bool} {t e q : TypeId} {k : IntKind} {a : Option Addr} {len cap : Nat} {d : DataW H} {ps : List MemPlace}
    (ht : P.underlying t = some (.slice e)) (he : P.underlying e = some (.slice q)) (hq : P.underlying q = some (.int k)) (ce : P.cellsOf e = 1) (cq : P.cellsOf q = 1)
    (e' : TypeId) (h : DataW.Trod enc P w base (fun _ => true) held t (.slice a len cap) d ps) : ∃ ls : List (List Int), ls.length = len ∧ len ≤ cap ∧ (Kd.slice e' (Kd.int k)).C w a ls.length ls ∧ ∀ l ∈ ls, ∀ n ∈ l, (Lit.int k n).wf = true := by
  obtain ⟨fuel, hf⟩ := h
  rcases open_int_rows ht he hq ce cq hf with ⟨hcs, _⟩ | ⟨a', len', cap', A, L, C, Z, hcs, _, hl, hm, _, hrows⟩
  · simp [Value.cells] at hcs
    obtain ⟨rfl, rfl, rfl⟩ := hcs
    exact ⟨[], rfl, Nat.le_refl _, ⟨rfl, by simp, fun h => by simp at h⟩, by simp⟩
  · simp [Value.cells] at hcs
    obtain ⟨rfl, rfl, rfl⟩ := hcs
    have hmax : maxLen = 9223372036854775807 := rfl
    refine ⟨(List.range len).map fun r => (Z r).take (L r), by simp, hl, ⟨rfl, by simp; omega, fun hn => ?_⟩, ?_⟩
    · refine ⟨a', rfl, fun j p hj => ?_⟩
      have hjl : j < len := by
        have := (List.getElem?_eq_some_iff.1 hj).1
        simpa using this
      obtain ⟨h1, h2, h3, h4, h5, h6, h7⟩ := hrows j (by omega)
      have hp : p = (Z j).take (L j) := by
        rw [List.getElem?_map, List.getElem?_range hjl] at hj
        simpa using hj.symm
      have hpl : p.length = L j := by rw [hp, List.length_take]; omega
      refine ⟨[.slice (A j) (L j) (C j)], rfl, ⟨A j, C j, by rw [hpl], by omega, rfl, by omega, fun hpos => ?_⟩, fun i u hu => ?_⟩
      · cases hA : A j with
        | none => have := h6 hA; omega
        | some b =>
          obtain ⟨_, h8⟩ := h7 b hA
          refine ⟨b, rfl, fun q x hx => ⟨[.int k x], rfl, rfl, fun i u hu => ?_⟩⟩
          have hql : q < L j := by have := (List.getElem?_eq_some_iff.1 hx).1; omega
          cases i with
          | zero =>
            have : u = .int k x := by simpa using hu.symm
            rw [this]
            have h9 : (Kd.int k).sz = 1 := rfl
            rw [h9, Nat.mul_one, Nat.add_zero, h8 q (by omega)]
            rw [hp, List.getElem?_take, if_pos hql] at hx
            rw [List.getD_eq_getElem?_getD, hx]; rfl
          | succ i => simp at hu
      · cases i with
        | zero =>
          have : u = .slice (A j) (L j) (C j) := by simpa using hu.symm
          rw [this]
          have h9 : (Kd.slice e' (Kd.int k)).sz = 1 := rfl
          rw [h9, Nat.mul_one, Nat.add_zero]
          exact h1
        | succ i => simp at hu
    · intro l hl2 n hn
      obtain ⟨r, hr, rfl⟩ := List.mem_map.1 hl2
      rw [List.mem_range] at hr
      obtain ⟨_, _, _, _, h5, _⟩ := hrows r (by omega)
      exact h5 n (List.mem_of_mem_take hn)
end Go.Proofs.Ytlkiajepahkliaa
