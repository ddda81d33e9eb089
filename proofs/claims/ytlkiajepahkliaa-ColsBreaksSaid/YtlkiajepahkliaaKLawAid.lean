/- Words for the laws' walks. -/
import Derived.Test.YtlkiajepahkliaaKLives17
import Derived.Test.YtlkiajepahkliaaKRef17
import Derived.Test.YtlkiajepahkliaaPAroundx1
import Derived.Deep.QuietTactic
import Derived.BigQuiet
namespace Go.Proofs.Ytlkiajepahkliaa
open Go.RowKit Go.Proofs.YtlkiajepahkliaaW.PrintWords
set_option linter.unusedVariables false
set_option linter.unusedSimpArgs false

theorem R_new2 {α : Type} {d : Kd α} {e base : Nat} {ok : Nat → Prop} {w : World} {v : Value} {xs : List α} (h : d.R e w base ok v xs) : ∃ A c, v = .slice A xs.length c ∧ xs.length ≤ c ∧ Kd.F d w (fun k => base ≤ k) A xs.length xs ∧ ∀ a, A = some a → base ≤ a.block := by
  have h1 := Kd.R_bound h
  obtain ⟨A, c, hv, hc, hF⟩ := Kd.R_V (base' := base) (Kd.R_mono (ok' := fun k => base ≤ k) h1 (fun _ hk => hk.2.1))
  exact ⟨A, c, hv, hc, hF, fun a ha => (h1.1 a.block (by rw [hv, ha]; rfl)).2.1⟩

theorem quiet_same {P : Program} {f : FuncId} {args : Array Value} {w : World} {n : Nat} {v : Value} (h : Calls P f args (w.drewN n) fun e w' => e = .returned v ∧ w.drewN n = w') : Calls P f args (w.drewN n) fun e w'' => e = .returned v ∧ ∃ m, w'' = w.drewN m :=
  h.mono fun _ _ ⟨he, hm⟩ => ⟨he, n, hm.symm⟩
theorem quiet_drawn {P : Program} {f : FuncId} {args : Array Value} {w : World} {n : Nat} {v : Value} (h : Calls P f args (w.drewN n) fun e w' => e = .returned v ∧ Drawn0 (w.drewN n) w') : Calls P f args (w.drewN n) fun e w'' => e = .returned v ∧ ∃ m, w'' = w.drewN m :=
  h.mono fun _ _ ⟨he, ⟨m, hm⟩⟩ => ⟨he, n + m, by rw [hm, World.drewN_drewN]⟩

theorem same_refl (l : List Int) (hl : l.length ≤ 1000000) : ∃ k, PSame.chequerref01_Same.f k l l = some true := by
  have go : ∀ (d i : Nat), l.length - i = d → i ≤ l.length → ∃ k, PSame.chequerref01_Same.l0 k l l (i : Int) = some true := by
    intro d
    induction d with
    | zero =>
      intro i hd hi
      exact ⟨1, by rw [PSame.chequerref01_Same.l0, if_neg (by omega)]⟩
    | succ d ih =>
      intro i hd hi
      obtain ⟨k, h⟩ := ih (i + 1) (by omega) (by omega)
      refine ⟨k + 1, ?_⟩
      rw [PSame.chequerref01_Same.l0, if_pos (by omega), if_pos (by omega), if_pos (by omega), if_pos rfl, wrap_small i (by omega)]
      exact h
  obtain ⟨k, h⟩ := go l.length 0 (by omega) (by omega)
  exact ⟨k, by unfold PSame.chequerref01_Same.f; rw [if_pos rfl]; exact h⟩

theorem around_spec (a : Int) (n : Nat) (hn : 0 < n) (hn2 : n ≤ 1000) (hw : (Lit.int .i64 a).wf = true) : ∃ r : Nat, PAround.chequerref01_Around.f a (n : Int) = some (r : Int) ∧ r < n := by
  have hr : -9223372036854775808 ≤ a ∧ a < 9223372036854775808 := by
    have e1 : IntKind.i64.min = -9223372036854775808 := by decide
    have e2 : IntKind.i64.max = 9223372036854775807 := by decide
    simp [Lit.wf] at hw
    omega
  have hm : ∀ x : Int, 0 ≤ x → ∃ r : Nat, Int.tmod x (n : Int) = (r : Int) ∧ r < n := fun x hx => by
    have h1 := Int.tmod_lt_of_pos x (b := (n : Int)) (by omega)
    have h2 := Int.tmod_nonneg (n : Int) hx
    exact ⟨(Int.tmod x (n : Int)).toNat, by omega, by omega⟩
  unfold PAround.chequerref01_Around.f
  by_cases h : a < 0
  · have e1 : wrap64 (-(wrap64 (a + 1))) = -(a + 1) := by unfold wrap64; omega
    obtain ⟨r, h1, h2⟩ := hm (-(a + 1)) (by omega)
    exact ⟨r, by rw [if_pos h, if_neg (by omega), e1, h1], h2⟩
  · obtain ⟨r, h1, h2⟩ := hm a (by omega)
    exact ⟨r, by rw [if_neg h, if_neg (by omega), h1], h2⟩

theorem zip_get {ss : List (List Int)} {r : List Int} {x : Nat} (hr : x < r.length) (hs : x < ss.length) : (List.zipWith sinceStep ss r).getD x [] = sinceStep (ss.getD x []) (r.getD x 0) := by
  rw [List.getD_eq_getElem?_getD, List.getElem?_zipWith, List.getElem?_eq_getElem hs, List.getElem?_eq_getElem hr]
  simp [hs, hr]
theorem map_get {own ls : List (List Int)} {x : Nat} (hs : x < ls.length) : (ls.map (endingOf own)).getD x [] = endingOf own (ls.getD x []) := by
  simp [hs]
theorem Told.size_calls {R : Nat → Prop} {w : World} {bm rows : Nat} {ls ss : List (List Int)} (h : Told R w bm ls ss rows) (hc : ColsOk ls) : Calls Try.prog 30 #[.pointer (some ⟨bm, 0, none⟩)] w fun e w' => e = .returned (.int .i64 (List.length (treeOf (ls.map wordOf)).auto)) ∧ w = w' := by
  obtain ⟨at_, h1, _⟩ := h
  exact colsSize_calls R bm rows _ at_ w h1 (auto_ok hc.good.wf hc.few2)
theorem Told.room_calls {R : Nat → Prop} {w : World} {bm rows : Nat} {ls ss : List (List Int)} (h : Told R w bm ls ss rows) : Calls Try.prog 29 #[.pointer (some ⟨bm, 0, none⟩)] w fun e w' => e = .returned (.int .i64 ss.length) ∧ w = w' := by
  obtain ⟨at_, h1, h2, _⟩ := h
  rw [← h2]
  exact colsRoom_calls R bm rows _ at_ w h1
theorem Told.rows_calls {R : Nat → Prop} {w : World} {bm rows : Nat} {ls ss : List (List Int)} (h : Told R w bm ls ss rows) : Calls Try.prog 26 #[.pointer (some ⟨bm, 0, none⟩)] w fun e w' => e = .returned (.int .i64 rows) ∧ w = w' := by
  obtain ⟨at_, h1, _⟩ := h
  exact colsRows_calls R bm rows _ at_ w h1
theorem Told.places_calls {R : Nat → Prop} {w : World} {bm rows : Nat} {ls ss : List (List Int)} (h : Told R w bm ls ss rows) : Calls Try.prog 31 #[.pointer (some ⟨bm, 0, none⟩)] w fun e w' => e = .returned (.int .i64 ss.length) ∧ w = w' := by
  obtain ⟨at_, h1, h2, _⟩ := h
  rw [← h2]
  exact colsPlaces_calls R bm rows _ at_ w h1
theorem Told.states_calls {R : Nat → Prop} {w : World} {bm rows : Nat} {ls ss : List (List Int)} (h : Told R w bm ls ss rows) (hs : ss.length ≤ 4096) : Calls Try.prog 27 #[.pointer (some ⟨bm, 0, none⟩)] w fun e w' =>
    ∃ A c at_, e = .returned (.slice A at_.length c) ∧ at_.length ≤ c ∧ PlacesAt (treeOf (ls.map wordOf)) ss at_ ∧ Kd.F (Kd.int .i64) w' (fun k => w.heap.size ≤ k) A at_.length at_ ∧ Below w.heap.size w w' := by
  obtain ⟨at_, h1, h2, h3⟩ := h
  refine (colsStates_calls R bm rows _ at_ w h1 (by omega)).mono ?_
  rintro e w' ⟨A, c, rfl, ho, hb⟩
  exact ⟨A, c, at_, rfl, (own_cap ho).1, ⟨h2, h3⟩, F_of_own ho, hb⟩
theorem PlacesAt.unique {T : TTree} (wf : TreeWf T) {ss : List (List Int)} {a b : List Int} (h : PlacesAt T ss a) (k : PlacesAt T ss b) : a = b := by
  apply List.ext_getElem (by rw [h.1, k.1])
  intro j h1 h2
  obtain ⟨m, e1, d1⟩ := h.2 j (by have := h.1; omega)
  obtain ⟨m', e2, d2⟩ := k.2 j (by have := k.1; omega)
  have := d1.unique wf d2
  subst this
  rw [List.getD_eq_getElem?_getD, List.getElem?_eq_getElem h1] at e1
  rw [List.getD_eq_getElem?_getD, List.getElem?_eq_getElem h2] at e2
  simp only [Option.getD_some] at e1 e2
  rw [e1, e2]
theorem placesAt_blank {T : TTree} (wf : TreeWf T) (n : Nat) : PlacesAt T (List.replicate n []) (List.replicate n 0) :=
  ⟨by simp, fun j hj => ⟨0, by rw [List.length_replicate] at hj; simp [hj], by
    rw [List.length_replicate] at hj
    have : (List.replicate n ([] : List Int)).getD j [] = [] := by simp [hj]
    rw [this]
    exact isDeep_nil wf⟩⟩
end Go.Proofs.Ytlkiajepahkliaa
