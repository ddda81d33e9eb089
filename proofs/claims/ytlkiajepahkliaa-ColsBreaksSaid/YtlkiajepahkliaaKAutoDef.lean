/- The automaton as plain data, how it lies in memory; in, Len. The automaton's state behind a number. What ends at a state of the automaton. The automaton's states' row while it is made: one block, turned cell by cell. automaton.New: what it starts with. -/
import Derived.Test.YtlkiajepahkliaaKInsert
import Derived.WalkMore
import Derived.Test.YtlkiajepahkliaaKSort
import Derived.Laws.AppendOwnNone
import Derived.Test.YtlkiajepahkliaaKTreeMore
import Derived.Laws.OwnMore
namespace Go.Proofs.Ytlkiajepahkliaa
open Go.RowKit
set_option linter.unusedVariables false
set_option linter.unusedSimpArgs false

/-- A row that is read: none, or its cells lie in one block of S. -/
def RowS (w : World) (S : Nat → Prop) (size : Nat) (v : Value) (n : Nat) (xs : List Value) : Prop :=
  (v = .slice none 0 0 ∧ n = 0) ∨ ∃ b off c, v = .slice (some ⟨b, off, none⟩) n c ∧ n ≤ c ∧ S b ∧ b < w.heap.size ∧ ∀ j, j < n * size → w.cell? ⟨b, off + j, none⟩ = xs[j]?
namespace RowS
variable {w w1 : World} {S S' : Nat → Prop} {size n : Nat} {v : Value} {xs : List Value}
theorem of_own {e : TypeId} (h : Go.Proofs.Ytlkiajepahkliaa.Own w e size v n xs S) : RowS w S size v n xs := by
  rcases h.1.2 with h0 | ⟨g, cap, cur, rfl, hg, hh, hc, hm, r⟩
  · exact .inl h0
  · exact .inr ⟨g, 0, cap, rfl, hc, h.2 g rfl, h.lt g rfl, fun j hj => by rw [Nat.zero_add]; exact h.1.cellAt j hj⟩
theorem mono (h : RowS w S size v n xs) (hs : ∀ k, k < w.heap.size → S k → S' k) : RowS w S' size v n xs := by
  rcases h with h0 | ⟨b, off, c, hv, hc, hS, hb, hr⟩
  · exact .inl h0
  · exact .inr ⟨b, off, c, hv, hc, hs b hb hS, hb, hr⟩
theorem mods {T : Nat → Prop} (h : RowS w S size v n xs) (hm : Mods T w w1) (hs : ∀ k, k < w.heap.size → S k → ¬ T k) : RowS w1 S size v n xs := by
  rcases h with h0 | ⟨b, off, c, hv, hc, hS, hb, hr⟩
  · exact .inl h0
  · refine .inr ⟨b, off, c, hv, hc, hS, Nat.lt_of_lt_of_le hb hm.size, fun j hj => ?_⟩
    rw [← hr j hj]
    unfold World.cell?
    simp only
    rw [hm.block b hb (hs b hb hS)]
theorem below (h : RowS w S size v n xs) (hb : Below w.heap.size w w1) : RowS w1 S size v n xs := h.mods (T := fun _ => False) (Mods.of_below hb) (fun _ _ _ h => h)
end RowS

theorem RowS.edges {w : World} {S : Nat → Prop} {v : Value} {l : List (Int × Int)} (h : RowS w S 2 v l.length (edgeCells l)) : EdgeRow w v l := by
  rcases h with ⟨hv, h0⟩ | ⟨b, off, c, hv, hc, hS, hb, hr⟩
  · exact ⟨none, 0, by rw [hv, h0], by omega, .inl h0⟩
  · refine ⟨_, c, hv, hc, .inr ⟨b, off, rfl, fun i hi => ?_⟩⟩
    have h1 := edgeCells_get l i hi
    exact ⟨by rw [hr (i * 2) (by omega), h1.1], by rw [Nat.add_assoc, hr (i * 2 + 1) (by omega), h1.2]⟩
theorem RowS.ints {w : World} {S : Nat → Prop} {v : Value} {k : IntKind} {l : List Int} (h : RowS w S 1 v l.length (intCells k l)) : IntRow w k v l := by
  rcases h with ⟨hv, h0⟩ | ⟨b, off, c, hv, hc, hS, hb, hr⟩
  · exact ⟨none, 0, by rw [hv, h0], by omega, .inl h0⟩
  · refine ⟨_, c, hv, hc, .inr ⟨b, off, rfl, fun i hi => ?_⟩⟩
    rw [hr i (by omega)]
    simp [intCells, hi]

structure AState where
  kids : List (Int × Int)
  fall : Int
  link : Int
  words : List Int
instance : Inhabited AState := ⟨⟨[], -1, -1, []⟩⟩

abbrev Auto := List AState
def Auto.st (S : Auto) (i : Nat) : AState := S.getD i default

/-- How an automaton lies in memory: its own block ba, its states' row in block g. -/
def AutoAt (w : World) (ba g : Nat) (S : Auto) : Prop :=
  ∃ (c : Nat) (kv wv : Nat → Value), w.cell? ⟨ba, 0, none⟩ = some (.slice (some ⟨g, 0, none⟩) S.length c) ∧ S.length ≤ c ∧ ba ≠ g ∧ g < w.heap.size ∧
    ∀ i, i < S.length → w.cell? ⟨g, i * 4, none⟩ = some (kv i) ∧ w.cell? ⟨g, i * 4 + 1, none⟩ = some (.int .i64 (S.st i).fall) ∧ w.cell? ⟨g, i * 4 + 2, none⟩ = some (.int .i64 (S.st i).link) ∧ w.cell? ⟨g, i * 4 + 3, none⟩ = some (wv i) ∧
      RowS w (fun k => k ≠ g) 2 (kv i) (S.st i).kids.length (edgeCells (S.st i).kids) ∧ RowS w (fun k => k ≠ g) 1 (wv i) (S.st i).words.length (intCells .i64 (S.st i).words)

theorem AutoAt.below {w w1 : World} {ba g : Nat} {S : Auto} (h : AutoAt w ba g S) (hb : Below w.heap.size w w1) : AutoAt w1 ba g S := by
  obtain ⟨c, kv, wv, h1, h2, h3, h4, h5⟩ := h
  refine ⟨c, kv, wv, (hb.cell (World.block_lt_of_cell? w _ h1)).trans h1, h2, h3, Nat.lt_of_lt_of_le h4 hb.size, fun i hi => ?_⟩
  obtain ⟨e0, e1, e2, e3, r1, r2⟩ := h5 i hi
  exact ⟨(hb.cell (p := ⟨g, i * 4, none⟩) h4).trans e0, (hb.cell (p := ⟨g, i * 4 + 1, none⟩) h4).trans e1, (hb.cell (p := ⟨g, i * 4 + 2, none⟩) h4).trans e2, (hb.cell (p := ⟨g, i * 4 + 3, none⟩) h4).trans e3, r1.below hb, r2.below hb⟩

/-- What holds of every automaton. -/
structure AutoOk (S : Auto) : Prop where
  pos : 0 < S.length
  le : S.length ≤ 1048576
  few : ∀ i, i < S.length → (S.st i).kids.length ≤ 1048576
  words : ∀ i, i < S.length → (S.st i).words.length ≤ 1048576
  rank : ∃ rank : Nat → Nat, (∀ i, i < S.length → rank i < S.length + 1) ∧ ∀ i, i < S.length →
    ((S.st i).fall = -1 ∨ (0 ≤ (S.st i).fall ∧ (S.st i).fall < S.length ∧ rank (S.st i).fall.toNat < rank i)) ∧
    ((S.st i).link = -1 ∨ (0 ≤ (S.st i).link ∧ (S.st i).link < S.length ∧ rank (S.st i).link.toNat < rank i))

def inA (S : Auto) (n : Int) : Bool := decide (0 ≤ n ∧ n < S.length)

set_option maxHeartbeats 400000 in
theorem autoIn_calls (ba g : Nat) (S : Auto) (n : Int) (w : World) (h : AutoAt w ba g S) (ok : AutoOk S) :
    Calls Try.prog 85 #[.pointer (some ⟨ba, 0, none⟩), .int .i64 n] w fun e w' => e = .returned (.bool (inA S n)) ∧ w = w' := by
  obtain ⟨c, kv, wv, hc, _⟩ := h
  have hle := ok.le
  clear ok
  go_enter Try.func85, Try.ntmps85
  go_wp2
  · go_ret; exact ⟨ret_bool (by simp [inA]; omega), rfl⟩
  · go_ret; exact ⟨ret_bool (by simp [inA]; omega), rfl⟩

set_option maxHeartbeats 400000 in
theorem autoLen_calls (ba g : Nat) (S : Auto) (w : World) (h : AutoAt w ba g S) (ok : AutoOk S) :
    Calls Try.prog 61 #[.pointer (some ⟨ba, 0, none⟩)] w fun e w' => e = .returned (.int .i64 S.length) ∧ w = w' := by
  obtain ⟨c, kv, wv, hc, _⟩ := h
  clear ok
  go_enter Try.func61, Try.ntmps61
  go_wp2
  go_ret; exact ⟨rfl, rfl⟩
end Go.Proofs.Ytlkiajepahkliaa

namespace Go.Proofs.Ytlkiajepahkliaa
open Go.RowKit
set_option linter.unusedVariables false
set_option linter.unusedSimpArgs false

/-- The child of a number, in a row that rises. -/
def findKid (p : Int) : List (Int × Int) → Option Int
  | [] => none
  | x :: l => if x.1 = p then some x.2 else if p < x.1 then none else findKid p l

def Auto.nextF (S : Auto) : Nat → Int → Int → Int
  | 0, _, _ => 0
  | f + 1, n, p => if 0 ≤ n ∧ n < S.length then (match findKid p (S.st n.toNat).kids with | some t => t | none => S.nextF f (S.st n.toNat).fall p) else 0
def Auto.next (S : Auto) (n p : Int) : Int := if inA S n = true then S.nextF (S.length + 2) n p else -1

theorem Auto.nextF_more {S : Auto} {rank : Nat → Nat} (hr : ∀ i, i < S.length → ((S.st i).fall = -1 ∨ (0 ≤ (S.st i).fall ∧ (S.st i).fall < S.length ∧ rank (S.st i).fall.toNat < rank i))) (p : Int) :
    ∀ (f f' : Nat) (n : Int), (0 ≤ n → n < S.length → rank n.toNat < f) → (0 ≤ n → n < S.length → rank n.toNat < f') → S.nextF f n p = S.nextF f' n p := by
  have hz : ∀ (f : Nat) (n : Int), ¬ (0 ≤ n ∧ n < S.length) → S.nextF f n p = 0 := by
    intro f n h
    cases f with
    | zero => rfl
    | succ f => simp only [Auto.nextF]; rw [if_neg h]
  intro f
  induction f with
  | zero =>
    intro f' n h1 h2
    rw [hz f' n (fun ⟨a, b⟩ => by have := h1 a b; omega)]
    rfl
  | succ f ih =>
    intro f' n h1 h2
    by_cases h : 0 ≤ n ∧ n < S.length
    · cases f' with
      | zero => have := h2 h.1 h.2; omega
      | succ f' =>
        simp only [Auto.nextF]
        rw [if_pos h, if_pos h]
        cases findKid p (S.st n.toNat).kids with
        | some t => rfl
        | none =>
          have h3 := hr n.toNat (by omega)
          have h4 := h1 h.1 h.2
          have h5 := h2 h.1 h.2
          exact ih f' _ (fun a b => by rcases h3 with h3 | h3 <;> omega) (fun a b => by rcases h3 with h3 | h3 <;> omega)
    · rw [hz _ n h, hz _ n h]

theorem Auto.next_hit {S : Auto} {m : Nat} {p t : Int} (hm : m < S.length) (hf : findKid p (S.st m).kids = some t) : S.nextF (S.length + 2) m p = t := by
  rw [Auto.nextF, if_pos (by omega)]
  simp only [Int.toNat_natCast]
  rw [hf]
theorem Auto.next_fall {S : Auto} (ok : AutoOk S) {m : Nat} {p : Int} (hm : m < S.length) (hf : findKid p (S.st m).kids = none) : S.nextF (S.length + 2) m p = S.nextF (S.length + 2) (S.st m).fall p := by
  obtain ⟨rank, hr1, hr2⟩ := ok.rank
  rw [Auto.nextF, if_pos (by omega)]
  simp only [Int.toNat_natCast]
  rw [hf]
  exact Auto.nextF_more (fun i hi => (hr2 i hi).1) p _ _ _ (fun a b => by have := hr1 (S.st m).fall.toNat (by omega); omega) (fun a b => by have := hr1 (S.st m).fall.toNat (by omega); omega)
theorem Auto.next_end {S : Auto} {p : Int} : S.nextF (S.length + 2) (-1) p = 0 := by rw [Auto.nextF, if_neg (by omega)]

theorem findKid_drop {p : Int} {l : List (Int × Int)} {i : Nat} (h : i < l.length) : findKid p (l.drop i) = if (l.getD i (0, 0)).1 = p then some (l.getD i (0, 0)).2 else if p < (l.getD i (0, 0)).1 then none else findKid p (l.drop (i + 1)) := by
  rw [List.drop_eq_getElem_cons h]
  simp [findKid, h]

theorem rk_lt {rank : Nat → Nat} {len : Nat} {fall : Int} {m : Nat} (h : fall = -1 ∨ (0 ≤ fall ∧ fall < len ∧ rank fall.toNat < rank m)) :
    (if fall < 0 then 0 else rank fall.toNat + 1) < (if (m : Int) < 0 then 0 else rank (m : Int).toNat + 1) := by
  have h2 : ¬ ((m : Int) < 0) := by omega
  rw [if_neg h2]
  simp only [Int.toNat_natCast]
  rcases h with h | h
  · subst h; simp
  · have h3 : ¬ (fall < 0) := by omega
    rw [if_neg h3]; omega

set_option maxRecDepth 100000 in
set_option maxHeartbeats 4000000 in
theorem autoNext_calls (ba g : Nat) (S : Auto) (n p : Int) (w : World) (h : AutoAt w ba g S) (ok : AutoOk S) :
    Calls Try.prog 55 #[.pointer (some ⟨ba, 0, none⟩), .int .i64 n, .int .u64 p] w fun e w' => e = .returned (.int .i64 (S.next n p)) ∧ Below w.heap.size w w' := by
  have h' := Lib.hid h
  have ok' := Lib.hid ok
  by_cases hin : inA S n = true
  · have hn : 0 ≤ n ∧ n < S.length := of_decide_eq_true hin
    have hgoal : S.next n p = S.nextF (S.length + 2) n p := by unfold Auto.next; rw [if_pos hin]
    have hgoal' := Lib.hid hgoal
    have hin' := Lib.hid hin
    obtain ⟨rank, hr1, hr2⟩ := ok.rank
    have hr2' := Lib.hid hr2
    obtain ⟨c, kv, wv, hc, hcl, hne, hgl, hst⟩ := h
    have hst' := Lib.hid hst
    have hc' := Lib.hid hc
    have hbl : ba < w.heap.size := World.block_lt_of_cell? w _ hc
    have hle := ok.le
    clear ok hin hgoal hr2 hst
    go_enter Try.func55, Try.ntmps55
    go_wp2_with fail
    go_step3
    go_wp2_with fail
    refine (autoIn_calls ba g S n _ h'.out ok'.out).mono ?_
    rintro e w' ⟨rfl, rfl⟩
    rw [hin'.out]
    clear hc
    go_wp2_with fail
    go_step3
    go_wp2_with fail
    go_loopw [1] (fun x wr => ∃ q : Int, x = .int .i64 q ∧ (q = -1 ∨ (0 ≤ q ∧ q < S.length)) ∧ S.nextF (S.length + 2) q p = S.nextF (S.length + 2) n p ∧ Below w.heap.size w wr)
      (fun x _ => if intOf x < 0 then 0 else rank (intOf x).toNat + 1)
    case atStart => exact ⟨n, rfl, .inr hn, rfl, Below.refl _ _⟩
    case round =>
      obtain ⟨q, rfl, hq, hnx, hB⟩ := hrel
      have hnx' := Lib.hid hnx
      clear hnx
      rcases hq with rfl | hq
      · go_wp2_with fail
        rw [Exit.noGoto_ret]
        go_ret
        refine ⟨ret_int ?_, hB⟩
        rw [hgoal'.out, ← hnx'.out, Auto.next_end]
      · obtain ⟨m, rfl⟩ : ∃ m : Nat, q = m := ⟨q.toNat, by omega⟩
        have hm : m < List.length S := by omega
        obtain ⟨e0, e1, _, _, r1, _⟩ := hst'.out m hm
        have hfr := (hr2'.out m hm).1
        obtain ⟨A, ck, hkv, hck, hrow⟩ := r1.edges
        obtain ⟨kids, hkids⟩ : ∃ kids, (S.st m).kids = kids := ⟨_, rfl⟩
        obtain ⟨fall, hfall⟩ : ∃ fall, (S.st m).fall = fall := ⟨_, rfl⟩
        rw [hkids] at hkv hck hrow
        rw [hfall] at hfr e1
        rw [hkv] at e0
        have hrow' := Lib.hid hrow
        have hkids' := Lib.hid hkids
        have hfall' := Lib.hid hfall
        have hklen : kids.length ≤ 1048576 := by rw [← hkids]; exact ok'.out.few m hm
        have hqne : ((m : Int) == -1) = false := by simp
        have f0 := (hB.cell (p := ⟨ba, 0, none⟩) hbl).trans hc'.out
        have f1 := (hB.cell (p := ⟨g, m * 4, none⟩) hgl).trans e0
        clear e0 r1 hkv hrow hkids hfall
        go_wp2_with fail
        go_loopw [32] (fun x wr => ∃ i : Nat, x = .int .i64 i ∧ i ≤ kids.length ∧ findKid p (kids.drop i) = findKid p kids ∧ Below w.heap.size w wr) (fun x _ => kids.length - (intOf x).toNat)
        case atStart => exact ⟨0, rfl, Nat.zero_le _, rfl, hB⟩
        case round =>
          clear f0 f1 hB
          obtain ⟨i, rfl, hi, hfk, hB⟩ := hrel
          have f0 := (hB.cell (p := ⟨ba, 0, none⟩) hbl).trans hc'.out
          have f2 := (hB.cell (p := ⟨g, m * 4 + 1, none⟩) hgl).trans e1
          have hfk' := Lib.hid hfk
          clear hfk
          by_cases hlt : i < kids.length
          · obtain ⟨b, off, rfl, hcell⟩ := hrow'.out.resolve_left (by omega)
            obtain ⟨c1, c2⟩ := hcell i hlt
            have d1 := (hB.cell (World.block_lt_of_cell? w _ c1)).trans c1
            have d2 := (hB.cell (World.block_lt_of_cell? w _ c2)).trans c2
            have hstep := findKid_drop (p := p) hlt
            rw [hfk'.out] at hstep
            obtain ⟨xp, hxp⟩ : ∃ xp, (kids.getD i (0, 0)).1 = xp := ⟨_, rfl⟩
            obtain ⟨xt, hxt⟩ : ∃ xt, (kids.getD i (0, 0)).2 = xt := ⟨_, rfl⟩
            rw [hxp, hxt] at hstep
            rw [hxp] at d1
            rw [hxt] at d2
            have hstep' := Lib.hid hstep
            clear hcell c1 c2 hstep hxp hxt
            have hB2 := hB.alloc hB.size (.cells #[.int .u64 xp, .int .i64 xt] 145)
            have f0b := (hB2.cell (p := ⟨ba, 0, none⟩) hbl).trans hc'.out
            have f2b := (hB2.cell (p := ⟨g, m * 4 + 1, none⟩) hgl).trans e1
            by_cases hp : xp = p
            · subst hp
              go_wp2_with fail
              go_ret
              refine ⟨ret_int ?_, hB2⟩
              rw [hgoal'.out, ← hnx'.out]
              exact (Auto.next_hit hm (by rw [hkids'.out, hstep'.out]; simp)).symm
            · by_cases hgt : p < xp
              · have hb1 : (xp == p) = false := by simpa using hp
                have hb2 : decide (p < xp) = true := by simpa using hgt
                go_wp2_with fail
                go_roundw
                case rel => exact ⟨fall, rfl, by omega, by rw [← hnx'.out, Auto.next_fall ok'.out hm (by rw [hkids'.out, hstep'.out, if_neg hp, if_pos hgt]), hfall'.out], hB2⟩
                case measure => exact rk_lt hfr
              · have hb1 : (xp == p) = false := by simpa using hp
                have hb2 : decide (p < xp) = false := by simpa using hgt
                go_wp2_with fail
                go_roundw
                case rel => exact ⟨i + 1, by simp, by omega, by rw [hstep'.out, if_neg hp, if_neg hgt], hB2⟩
                case measure => simp [intOf]; omega
          · obtain rfl : i = kids.length := by omega
            go_wp2_with fail
            go_roundw
            case rel =>
              refine ⟨fall, rfl, by omega, ?_, hB⟩
              rw [← hnx'.out, Auto.next_fall ok'.out hm (by rw [hkids'.out, ← hfk'.out, List.drop_length]; rfl), hfall'.out]
            case measure => exact rk_lt hfr
  · have hgoal : S.next n p = -1 := by unfold Auto.next; rw [if_neg hin]
    have hin' : Hid (inA S n = false) := Lib.hid (Bool.eq_false_iff.2 hin)
    have hgoal' := Lib.hid hgoal
    clear h ok hin hgoal
    go_enter Try.func55, Try.ntmps55
    go_wp2_with fail
    go_step3
    go_wp2_with fail
    refine (autoIn_calls ba g S n _ h'.out ok'.out).mono ?_
    rintro e w' ⟨rfl, rfl⟩
    rw [hin'.out]
    go_wp2_with fail
    rw [Exit.noGoto_ret]
    go_ret
    exact ⟨ret_int hgoal'.out.symm, Below.refl _ _⟩
end Go.Proofs.Ytlkiajepahkliaa

namespace Go.Proofs.Ytlkiajepahkliaa
open Go.RowKit
set_option linter.unusedVariables false
set_option linter.unusedSimpArgs false

def Auto.endsF (S : Auto) : Nat → Int → List Int
  | 0, _ => []
  | f + 1, n => if 0 ≤ n ∧ n < S.length then (S.st n.toNat).words ++ S.endsF f (S.st n.toNat).link else []
def Auto.ends (S : Auto) (n : Int) : List Int := sortInts (S.endsF (S.length + 2) n)

theorem Auto.endsF_more {S : Auto} {rank : Nat → Nat} (hr : ∀ i, i < S.length → ((S.st i).link = -1 ∨ (0 ≤ (S.st i).link ∧ (S.st i).link < S.length ∧ rank (S.st i).link.toNat < rank i))) :
    ∀ (f f' : Nat) (n : Int), (0 ≤ n → n < S.length → rank n.toNat < f) → (0 ≤ n → n < S.length → rank n.toNat < f') → S.endsF f n = S.endsF f' n := by
  have hz : ∀ (f : Nat) (n : Int), ¬ (0 ≤ n ∧ n < S.length) → S.endsF f n = [] := by
    intro f n h
    cases f with
    | zero => rfl
    | succ f => simp only [Auto.endsF]; rw [if_neg h]
  intro f
  induction f with
  | zero =>
    intro f' n h1 h2
    rw [hz f' n (fun ⟨a, b⟩ => by have := h1 a b; omega)]
    rfl
  | succ f ih =>
    intro f' n h1 h2
    by_cases h : 0 ≤ n ∧ n < S.length
    · cases f' with
      | zero => have := h2 h.1 h.2; omega
      | succ f' =>
        simp only [Auto.endsF]
        rw [if_pos h, if_pos h]
        have h3 := hr n.toNat (by omega)
        have h4 := h1 h.1 h.2
        have h5 := h2 h.1 h.2
        rw [ih f' _ (fun a b => by rcases h3 with h3 | h3 <;> omega) (fun a b => by rcases h3 with h3 | h3 <;> omega)]
    · rw [hz _ n h, hz _ n h]
theorem Auto.ends_step {S : Auto} (ok : AutoOk S) {m : Nat} (hm : m < S.length) : S.endsF (S.length + 2) m = (S.st m).words ++ S.endsF (S.length + 2) (S.st m).link := by
  obtain ⟨rank, hr1, hr2⟩ := ok.rank
  rw [Auto.endsF, if_pos (by omega)]
  simp only [Int.toNat_natCast]
  rw [Auto.endsF_more (fun i hi => (hr2 i hi).2) _ (S.length + 2) _ (fun a b => by have := hr1 (S.st m).link.toNat (by omega); omega) (fun a b => by have := hr1 (S.st m).link.toNat (by omega); omega)]
theorem Auto.ends_end {S : Auto} : S.endsF (S.length + 2) (-1) = [] := by rw [Auto.endsF, if_neg (by omega)]

def rk (rank : Nat → Nat) (n : Int) : Nat := if n < 0 then 0 else rank n.toNat + 1
theorem rk_step {rank : Nat → Nat} {len : Nat} {fall : Int} {m : Nat} (h : fall = -1 ∨ (0 ≤ fall ∧ fall < len ∧ rank fall.toNat < rank m)) : rk rank fall < rk rank m := by
  unfold rk
  have h2 : ¬ ((m : Int) < 0) := by omega
  rw [if_neg h2]
  simp only [Int.toNat_natCast]
  rcases h with h | h
  · subst h; simp
  · have h3 : ¬ (fall < 0) := by omega
    rw [if_neg h3]; omega

theorem len_step {p a b : Nat} (h : p + a * 1048576 ≤ 1099512676352) (hs : b < a) : p + b * 1048576 ≤ 1099512676352 :=
  Nat.le_trans (Nat.add_le_add_left (Nat.mul_le_mul_right _ (Nat.le_of_lt hs)) _) h

set_option maxRecDepth 100000 in
set_option maxHeartbeats 4000000 in
theorem autoEnds_calls (ba g : Nat) (S : Auto) (n : Int) (w : World) (h : AutoAt w ba g S) (ok : AutoOk S) (hn : 0 ≤ n ∧ n < S.length) :
    Calls Try.prog 56 #[.pointer (some ⟨ba, 0, none⟩), .int .i64 n] w fun e w' =>
      ∃ A c, e = .returned (.slice A (S.ends n).length c) ∧ Own w' 3 1 (.slice A (S.ends n).length c) (S.ends n).length (intCells .i64 (S.ends n)) (fun k => w.heap.size ≤ k) ∧ Below w.heap.size w w' := by
  have h' := Lib.hid h
  have ok' := Lib.hid ok
  obtain ⟨rank, hr1, hr2⟩ := ok.rank
  have hr2' := Lib.hid hr2
  obtain ⟨c, kv, wv, hc, hcl, hne, hgl, hst⟩ := h
  have hst' := Lib.hid hst
  have hc' := Lib.hid hc
  have hbl : ba < w.heap.size := World.block_lt_of_cell? w _ hc
  have hle := ok.le
  have hrn : rk rank n ≤ 1048577 := by unfold rk; split; · omega
                                       · have := hr1 n.toNat (by omega); omega
  obtain ⟨i1, hi1, hz1, hzs1, hzb1⟩ := info_parts infoInt
  clear ok hr2 hst hc
  go_enter Try.func56, Try.ntmps56
  go_wp2_with fail
  go_loopw [1, 5] (fun x y wr => ∃ (q : Int) (pre : List Int) (A : Option Addr) (c : Nat), x = .int .i64 q ∧ y = .slice A pre.length c ∧ (q = -1 ∨ (0 ≤ q ∧ q < S.length)) ∧ S.endsF (S.length + 2) n = pre ++ S.endsF (S.length + 2) q ∧ Own wr 3 1 (.slice A pre.length c) pre.length (intCells .i64 pre) (fun k => w.heap.size ≤ k) ∧ Below w.heap.size w wr ∧ pre.length + rk rank q * 1048576 ≤ 1099512676352)
    (fun x _ _ => rk rank (intOf x))
  case atStart => exact ⟨n, [], none, 0, rfl, rfl, .inr hn, by simp, Own.nil _ _ _ _, Below.refl _ _, by simp only [List.length_nil]; omega⟩
  case round =>
    obtain ⟨q, pre, A, c2, rfl, rfl, hq, hup, ho, hB, hpl⟩ := hrel
    have hup' := Lib.hid hup
    have ho' := Lib.hid ho
    have hb' := Lib.hid (h'.out.below hB)
    clear hup ho
    rcases hq with rfl | hq
    · have hin : Hid (inA S (-1) = false) := Lib.hid (decide_eq_false (by omega))
      have hfin : Hid (S.ends n = sortInts pre) := by
        have := hup'.out
        rw [Auto.ends_end, List.append_nil] at this
        unfold Auto.ends
        exact Lib.hid (by rw [this])
      have hsrt := fun wx (ho : Own wx 3 1 (.slice A pre.length c2) pre.length (intCells .i64 pre) (fun k => w.heap.size ≤ k)) => sort_calls (.slice A pre.length c2) pre.length pre wx (fun k => w.heap.size ≤ k) rfl ho (by omega)
      have hsrt' := Lib.hid hsrt
      clear hsrt hup'
      go_wp2_with fail
      refine (autoIn_calls ba g S _ _ hb'.out ok'.out).mono ?_
      rintro e w' ⟨rfl, rfl⟩
      rw [hin.out]
      go_wp2_with fail
      refine (hsrt'.out _ ho'.out).mono ?_
      rintro e w2 ⟨rfl, ho2, hm2⟩
      go_wp2_with fail
      go_ret
      rw [hfin.out]
      exact ⟨A, c2, by rw [sortInts_length]; rfl, by rw [sortInts_length]; exact ho2, hB.trans (hm2.below hB.size (fun k hk hj => by have := ho'.out.2 k hj; omega))⟩
    · obtain ⟨m, rfl⟩ : ∃ m : Nat, q = m := ⟨q.toNat, by omega⟩
      have hm : m < List.length S := by omega
      have hin : Hid (inA S m = true) := Lib.hid (decide_eq_true (by omega))
      obtain ⟨_, _, e2, e3, _, r2⟩ := hst'.out m hm
      have hlr := (hr2'.out m hm).2
      have hwl := ok'.out.words m hm
      have hstep := hup'.out
      rw [Auto.ends_step ok'.out hm, ← List.append_assoc] at hstep
      obtain ⟨ws, hws⟩ : ∃ ws, (S.st m).words = ws := ⟨_, rfl⟩
      obtain ⟨link, hlk⟩ : ∃ link, (S.st m).link = link := ⟨_, rfl⟩
      rw [hws] at hwl r2 hstep
      rw [hlk] at hlr e2 hstep
      have hrs := rk_step hlr
      have hstep' := Lib.hid hstep
      clear hup' hstep hws hlk
      have f1 := (hB.cell (p := ⟨ba, 0, none⟩) hbl).trans hc'.out
      have f2 := (hB.cell (p := ⟨g, m * 4 + 2, none⟩) hgl).trans e2
      have f3 := (hB.cell (p := ⟨g, m * 4 + 3, none⟩) hgl).trans e3
      rcases r2 with ⟨hv, h0⟩ | ⟨b, off, cw, hv, hcw, hS, hb, hcell⟩
      · rw [hv] at f3
        obtain rfl := List.eq_nil_of_length_eq_zero h0
        have hpl2 : pre.length + rk rank link * 1048576 ≤ 1099512676352 := len_step hpl hrs
        clear e2 e3 hv hwl h0
        go_wp2_with fail
        refine (autoIn_calls ba g S _ _ hb'.out ok'.out).mono ?_
        rintro e w' ⟨rfl, rfl⟩
        rw [hin.out]
        go_wp2_with (at_builtin; refine wpList_append_own_none rfl (.tmp 17) (.tmp 25) 31 rfl 0 3 i1 1 Try.underlying31 hi1 _ pre.length _ rfl ho'.out.1 rfl ?_)
        go_roundw
        case rel => exact ⟨link, pre, A, c2, rfl, rfl, by omega, by rw [hstep'.out]; simp, ho'.out, hB, hpl2⟩
        case measure => exact hrs
      · rw [hv] at f3
        have hsrc : Hid (∀ j u, (intCells .i64 ws)[j]? = some u → wr.cell? ((⟨b, off, none⟩ : Addr).add j) = some u) := Lib.hid (by
          intro j u hj
          have hjl : j < ws.length := by
            rcases Nat.lt_or_ge j ws.length with h1 | h1
            · exact h1
            · rw [List.getElem?_eq_none (by rw [intCells_length]; omega)] at hj; cases hj
          rw [addr_add, hB.cell (p := ⟨b, off + j, none⟩) hb, hcell j (by omega)]
          exact hj)
        have hone := Lib.hid (ints_one .i64 ws)
        have hw7 : Hid (∀ (w7 : World) (v : Value), (∀ k, v.ownBlock = some k → w.heap.size ≤ k) → wr.grownBy w7 v.ownBlock → Below w.heap.size w w7) := Lib.hid fun w7 v hv hg => hB.grown hg hB.size hv
        clear hcell hv e3
        go_wp2_with fail
        refine (autoIn_calls ba g S _ _ hb'.out ok'.out).mono ?_
        rintro e w' ⟨rfl, rfl⟩
        rw [hin.out]
        go_wp2_with (at_builtin; refine wpList_append_own_at _ rfl (.tmp 17) (.tmp 25) 31 rfl 0 3 i1 (.int .i64 0) 1 8 Try.underlying31 hi1 hz1 hzs1 hzb1 rfl (by decide) _ pre.length _ rfl ho'.out.1 ⟨b, off, none⟩ ws.length cw (intCells .i64 ws) rfl (by rw [intCells_length]; omega) hsrc.out hone.out (by unfold maxLen; omega) (by omega) (Nat.zero_le _) ?_; intro v7 w7 ho7 hg7 hnn hat7; clear hnn; obtain ⟨A7, c7, hv7⟩ := ownsRow_slice ho7; subst hv7; have hB7 := hw7.out w7 _ ho'.out.2 hg7; have k1 := (hB7.cell (p := ⟨ba, 0, none⟩) hbl).trans hc'.out; have k2 : w7.cell? ⟨g, m * 4 + 2, none⟩ = some (.int .i64 link) := (hB7.cell (p := ⟨g, m * 4 + 2, none⟩) hgl).trans e2)
        go_roundw
        case rel =>
          refine ⟨link, pre ++ ws, A7, c7, rfl, by simp, by omega, by rw [hstep'.out], ?_, hB7, by rw [List.length_append]; omega⟩
          refine ⟨by simpa [intCells] using ho7, fun k hk => ?_⟩
          rcases hat7 with h9 | h9
          · exact ho'.out.2 k (h9.symm.trans ((ownBlock_len _ _ _ _ _).trans hk))
          · have := hk.symm.trans ((ownBlock_len _ _ _ _ _).trans h9)
            injection this with this
            have h10 := hB.size
            omega
        case measure => exact hrs
end Go.Proofs.Ytlkiajepahkliaa

namespace Go.Proofs.Ytlkiajepahkliaa
open Go.RowKit
set_option linter.unusedVariables false
set_option linter.unusedSimpArgs false

def stFrom (kv wv : Nat → Value) : Nat → List AState → List Value
  | _, [] => []
  | i, x :: l => kv i :: .int .i64 x.fall :: .int .i64 x.link :: wv i :: stFrom kv wv (i + 1) l

theorem stFrom_length (kv wv : Nat → Value) (i : Nat) (l : List AState) : (stFrom kv wv i l).length = l.length * 4 := by
  induction l generalizing i with
  | nil => rfl
  | cons x l ih => simp only [stFrom, List.length_cons, ih]; omega
theorem stFrom_get (kv wv : Nat → Value) (l : List AState) : ∀ (i q : Nat), q < l.length →
    (stFrom kv wv i l)[q * 4]? = some (kv (i + q)) ∧ (stFrom kv wv i l)[q * 4 + 1]? = some (.int .i64 (l.getD q default).fall) ∧
    (stFrom kv wv i l)[q * 4 + 2]? = some (.int .i64 (l.getD q default).link) ∧ (stFrom kv wv i l)[q * 4 + 3]? = some (wv (i + q)) := by
  induction l with
  | nil => intro i q h; simp at h
  | cons x l ih =>
    intro i q h
    cases q with
    | zero => simp [stFrom]
    | succ q =>
      obtain ⟨h1, h2, h3, h4⟩ := ih (i + 1) q (by simpa using h)
      rw [show i + (q + 1) = i + 1 + q by omega, show (q + 1) * 4 = q * 4 + 4 by omega, show q * 4 + 4 + 1 = q * 4 + 1 + 4 by omega, show q * 4 + 4 + 2 = q * 4 + 2 + 4 by omega, show q * 4 + 4 + 3 = q * 4 + 3 + 4 by omega]
      exact ⟨h1, h2, h3, h4⟩
theorem stFrom_congr {kv wv kv' wv' : Nat → Value} (l : List AState) : ∀ i, (∀ q, i ≤ q → q < i + l.length → kv q = kv' q ∧ wv q = wv' q) → stFrom kv wv i l = stFrom kv' wv' i l := by
  induction l with
  | nil => intro i _; rfl
  | cons x l ih =>
    intro i h
    simp only [stFrom]
    rw [(h i (Nat.le_refl _) (by simp)).1, (h i (Nat.le_refl _) (by simp)).2, ih (i + 1) (fun q hq hl => h q (by omega) (by simp only [List.length_cons]; omega))]
/-- Values and numbers as they stand behind a store into place r of state q. -/
theorem stFrom_set (kv wv : Nat → Value) (r : Nat) (v : Value) (f : AState → AState) (kv' wv' : Nat → Value) (q0 : Nat)
    (hk : ∀ j, j ≠ q0 → kv' j = kv j ∧ wv' j = wv j)
    (hr : ∀ x, [kv q0, .int .i64 x.fall, .int .i64 x.link, wv q0].set r v = [kv' q0, .int .i64 (f x).fall, .int .i64 (f x).link, wv' q0]) (hr4 : r < 4) (l : List AState) : ∀ (i q : Nat), q < l.length → i + q = q0 →
    (stFrom kv wv i l).set (q * 4 + r) v = stFrom kv' wv' i (l.modify q f) := by
  induction l with
  | nil => intro i q h; simp at h
  | cons x l ih =>
    intro i q h hq
    cases q with
    | zero =>
      obtain rfl : i = q0 := by omega
      have h1 := hr x
      have h2 : stFrom kv wv (i + 1) l = stFrom kv' wv' (i + 1) l := stFrom_congr l (i + 1) (fun q hq _ => ⟨(hk q (by omega)).1.symm, (hk q (by omega)).2.symm⟩)
      simp only [stFrom, Nat.zero_mul, Nat.zero_add, List.modify_zero_cons, h2]
      have h3 : (kv i :: .int .i64 x.fall :: .int .i64 x.link :: wv i :: stFrom kv' wv' (i + 1) l) = [kv i, .int .i64 x.fall, .int .i64 x.link, wv i] ++ stFrom kv' wv' (i + 1) l := rfl
      rw [h3, List.set_append_left _ _ (by simpa using hr4), h1]
      rfl
    | succ q =>
      have := ih (i + 1) q (by simpa using h) (by omega)
      rw [show (q + 1) * 4 + r = q * 4 + r + 4 by omega]
      simp only [stFrom, List.set_cons_succ, List.modify_succ_cons, this]
      rw [(hk i (by omega)).1, (hk i (by omega)).2]

/-- The states' row as one block. -/
def StBlock (w : World) (g : Nat) (S : Auto) (kv wv : Nat → Value) : Prop := w.heap[g]? = some (.cells (stFrom kv wv 0 S).toArray 143 (0, 0))

namespace StBlock
variable {w w1 : World} {g : Nat} {S : Auto} {kv wv : Nat → Value}
theorem lt (h : StBlock w g S kv wv) : g < w.heap.size := (Array.getElem?_eq_some_iff.1 h).1
theorem cell (h : StBlock w g S kv wv) (j : Nat) : w.cell? ⟨g, j, none⟩ = (stFrom kv wv 0 S)[j]? := by simp [World.cell?, show w.heap[g]? = _ from h]
theorem frozen (h : StBlock w g S kv wv) (j : Nat) : w.frozen? ⟨g, j, none⟩ = false := by simp [World.frozen?, show w.heap[g]? = _ from h]
theorem cells (h : StBlock w g S kv wv) {q : Nat} (hq : q < S.length) : w.cell? ⟨g, q * 4, none⟩ = some (kv q) ∧ w.cell? ⟨g, q * 4 + 1, none⟩ = some (.int .i64 (S.st q).fall) ∧ w.cell? ⟨g, q * 4 + 2, none⟩ = some (.int .i64 (S.st q).link) ∧ w.cell? ⟨g, q * 4 + 3, none⟩ = some (wv q) := by
  have := stFrom_get kv wv S 0 q hq
  rw [Nat.zero_add] at this
  rw [h.cell, h.cell, h.cell, h.cell]
  exact this
theorem move (h : StBlock w g S kv wv) (hm : w1.heap[g]? = w.heap[g]?) : StBlock w1 g S kv wv := hm.trans h
theorem set (h : StBlock w g S kv wv) (r : Nat) (v : Value) (f : AState → AState) (kv' wv' : Nat → Value) {q : Nat} (hq : q < S.length) (hk : ∀ j, j ≠ q → kv' j = kv j ∧ wv' j = wv j)
    (hr : ∀ x, [kv q, .int .i64 x.fall, .int .i64 x.link, wv q].set r v = [kv' q, .int .i64 (f x).fall, .int .i64 (f x).link, wv' q]) (hr4 : r < 4) : StBlock (w.setCell ⟨g, q * 4 + r, none⟩ v) g (S.modify q f) kv' wv' := by
  have h1 := stFrom_set kv wv r v f kv' wv' q hk hr hr4 S 0 q hq (by omega)
  unfold StBlock at h ⊢
  rw [← h1]
  simp [World.setCell, Array.getElem?_modify, h]
theorem setFall (h : StBlock w g S kv wv) (x : Int) {q : Nat} (hq : q < S.length) : StBlock (w.setCell ⟨g, q * 4 + 1, none⟩ (.int .i64 x)) g (S.modify q fun s => { s with fall := x }) kv wv :=
  h.set 1 _ _ kv wv hq (fun _ _ => ⟨rfl, rfl⟩) (fun _ => rfl) (by decide)
theorem setLink (h : StBlock w g S kv wv) (x : Int) {q : Nat} (hq : q < S.length) : StBlock (w.setCell ⟨g, q * 4 + 2, none⟩ (.int .i64 x)) g (S.modify q fun s => { s with link := x }) kv wv :=
  h.set 2 _ _ kv wv hq (fun _ _ => ⟨rfl, rfl⟩) (fun _ => rfl) (by decide)
theorem setKids (h : StBlock w g S kv wv) (v : Value) {q : Nat} (hq : q < S.length) (l : List (Int × Int)) : StBlock (w.setCell ⟨g, q * 4, none⟩ v) g (S.modify q fun s => { s with kids := l }) (fun j => if j = q then v else kv j) wv :=
  h.set 0 _ _ _ wv hq (fun j hj => ⟨if_neg hj, rfl⟩) (fun _ => by simp) (by decide)
theorem setWords (h : StBlock w g S kv wv) (v : Value) {q : Nat} (hq : q < S.length) (l : List Int) : StBlock (w.setCell ⟨g, q * 4 + 3, none⟩ v) g (S.modify q fun s => { s with words := l }) kv (fun j => if j = q then v else wv j) :=
  h.set 3 _ _ kv _ hq (fun j hj => ⟨rfl, if_neg hj⟩) (fun _ => by simp) (by decide)
end StBlock

theorem Auto.st_modify (S : Auto) (q i : Nat) (f : AState → AState) : Auto.st (S.modify q f) i = if i = q ∧ q < S.length then f (S.st i) else S.st i := by
  unfold Auto.st
  simp only [List.getD_eq_getElem?_getD, List.getElem?_modify]
  by_cases h : q = i
  · subst h
    by_cases h2 : q < S.length <;> simp [h2]
  · simp [h, Ne.symm h]

/-- What its rows hold, in blocks of R. -/
def StRows (w : World) (R : Nat → Prop) (S : Auto) (kv wv : Nat → Value) : Prop := ∀ i, i < S.length → RowS w R 2 (kv i) (S.st i).kids.length (edgeCells (S.st i).kids) ∧ RowS w R 1 (wv i) (S.st i).words.length (intCells .i64 (S.st i).words)
theorem StRows.mods {w w1 : World} {R T : Nat → Prop} {S : Auto} {kv wv : Nat → Value} (h : StRows w R S kv wv) (hm : Mods T w w1) (hs : ∀ k, k < w.heap.size → R k → ¬ T k) : StRows w1 R S kv wv :=
  fun i hi => ⟨(h i hi).1.mods hm hs, (h i hi).2.mods hm hs⟩
theorem StRows.below {w w1 : World} {R : Nat → Prop} {S : Auto} {kv wv : Nat → Value} (h : StRows w R S kv wv) (hb : Below w.heap.size w w1) : StRows w1 R S kv wv :=
  fun i hi => ⟨(h i hi).1.below hb, (h i hi).2.below hb⟩

theorem AutoAt.of_block {w : World} {ba g c : Nat} {S : Auto} {kv wv : Nat → Value} (hc : w.cell? ⟨ba, 0, none⟩ = some (.slice (some ⟨g, 0, none⟩) S.length c)) (hcl : S.length ≤ c) (hne : ba ≠ g) (hb : StBlock w g S kv wv) (hr : StRows w (fun k => k ≠ g) S kv wv) : AutoAt w ba g S :=
  ⟨c, kv, wv, hc, hcl, hne, hb.lt, fun i hi => ⟨(hb.cells hi).1, (hb.cells hi).2.1, (hb.cells hi).2.2.1, (hb.cells hi).2.2.2, (hr i hi).1, (hr i hi).2⟩⟩
end Go.Proofs.Ytlkiajepahkliaa

namespace Go.Proofs.Ytlkiajepahkliaa
open Go.RowKit
set_option linter.unusedVariables false
set_option linter.unusedSimpArgs false

theorem infoState : (Try.prog.info? 143).map (fun i => (i.zero, i.size, i.bytes)) = some (some (.agg #[.slice none 0 0, .int .i64 0, .int .i64 0, .slice none 0 0]), 4, 64) := by kernel_rfl
theorem infoAEdge : (Try.prog.info? 145).map (fun i => (i.zero, i.size, i.bytes)) = some (some (.agg #[.int .u64 0, .int .i64 0]), 2, 16) := by kernel_rfl

def noneV : Nat → Value := fun _ => .slice none 0 0
def Auto.blank (n : Nat) : Auto := List.replicate n ⟨[], 0, 0, []⟩
theorem made_st (n : Nat) : (madeCells #[.slice none 0 0, .int .i64 0, .int .i64 0, .slice none 0 0] (n * 4)).toList = stFrom noneV noneV 0 (Auto.blank n) := by
  apply List.ext_getElem?
  intro j
  by_cases hj : j < n * 4
  · have hq : j / 4 < (Auto.blank n).length := by simp [Auto.blank]; omega
    have h1 := stFrom_get noneV noneV (Auto.blank n) 0 (j / 4) hq
    have hd : (Auto.blank n).getD (j / 4) default = ⟨[], 0, 0, []⟩ := by
      have : j / 4 < n := by omega
      simp [Auto.blank, this]
    rw [hd] at h1
    have hl : (madeCells #[.slice none 0 0, .int .i64 0, .int .i64 0, .slice none 0 0] (n * 4)).toList[j]? = some (#[Value.slice none 0 0, .int .i64 0, .int .i64 0, .slice none 0 0][j % 4]!) := by
      simp [madeCells, hj]
    rw [hl]
    have hm : j % 4 = 0 ∨ j % 4 = 1 ∨ j % 4 = 2 ∨ j % 4 = 3 := by omega
    rcases hm with h | h | h | h
    · rw [show j = j / 4 * 4 by omega, h1.1, show j / 4 * 4 % 4 = 0 by omega]; rfl
    · rw [show j = j / 4 * 4 + 1 by omega, h1.2.1, show (j / 4 * 4 + 1) % 4 = 1 by omega]; rfl
    · rw [show j = j / 4 * 4 + 2 by omega, h1.2.2.1, show (j / 4 * 4 + 2) % 4 = 2 by omega]; rfl
    · rw [show j = j / 4 * 4 + 3 by omega, h1.2.2.2, show (j / 4 * 4 + 3) % 4 = 3 by omega]; rfl
  · rw [List.getElem?_eq_none (by rw [Array.length_toList, size_madeCells]; omega), List.getElem?_eq_none (by rw [stFrom_length]; simp [Auto.blank]; omega)]

theorem StBlock.made {w : World} {base g n : Nat} (hn : 0 < n) (h : w.ownsRow base 143 4 (.slice (some ⟨g, 0, none⟩) n n) n (madeCells #[.slice none 0 0, .int .i64 0, .int .i64 0, .slice none 0 0] (n * 4)).toList) : StBlock w g (Auto.blank n) noneV noneV := by
  rcases h.2 with ⟨h1, _⟩ | ⟨g', cap, cur, hv, hg, hh, hc, hm, hs, ht⟩
  · cases h1
  · injection hv with h1 h2 h3
    injection h1 with h1; injection h1 with h1
    subst h1; subst h3
    unfold StBlock
    rw [hh, ← made_st, ← ht, List.take_of_length_le (by rw [Array.length_toList]; omega)]

/-- A node's row of children as the automaton has it. -/
def TTree.kidsA (T : TTree) (i : Nat) : List (Int × Int) := (T.kids i).map fun x => (x.1, T.child i x.1)

theorem stFrom_same (kv wv : Nat → Value) (f : AState → AState) (hf : ∀ x, (f x).fall = x.fall ∧ (f x).link = x.link) (l : List AState) : ∀ (i q : Nat), stFrom kv wv i (l.modify q f) = stFrom kv wv i l := by
  induction l with
  | nil => intro i q; cases q <;> rfl
  | cons x l ih =>
    intro i q
    cases q with
    | zero => simp only [List.modify_zero_cons, stFrom, (hf x).1, (hf x).2]
    | succ q => simp only [List.modify_succ_cons, stFrom, ih]
theorem StBlock.anyKids {w : World} {g : Nat} {S : Auto} {kv wv : Nat → Value} (h : StBlock w g S kv wv) (q : Nat) (l : List (Int × Int)) : StBlock w g (S.modify q fun s => { s with kids := l }) kv wv := by
  unfold StBlock
  rw [stFrom_same kv wv (fun s => { s with kids := l }) (fun x => ⟨rfl, rfl⟩)]
  exact h
/-- What New has laid and does not turn: the box of the tree, the automaton's own block, the box of its address. -/
structure NewAt (w : World) (bt n : Nat) (W : World) : Prop where
  tree : W.heap[w.heap.size]? = some (.cells #[.pointer (some ⟨bt, 0, none⟩)] 74 (0, 0))
  auto : W.heap[w.heap.size + 1 + 1]? = some (.cells #[.slice (some ⟨w.heap.size + 1, 0, none⟩) n n] 139 (0, 0))
  box : W.heap[w.heap.size + 1 + 1 + 1]? = some (.cells #[.pointer (some ⟨w.heap.size + 1 + 1, 0, none⟩)] 75 (0, 0))
  below : Below w.heap.size w W
  size : w.heap.size + 4 ≤ W.heap.size
theorem NewAt.mods {w W W' : World} {bt n : Nat} (h : NewAt w bt n W) (hm : Mods (fun k => k = w.heap.size + 1) W W') : NewAt w bt n W' :=
  ⟨(hm.block _ (by have := h.size; omega) (by omega)).trans h.tree, (hm.block _ (by have := h.size; omega) (by omega)).trans h.auto, (hm.block _ (by have := h.size; omega) (by omega)).trans h.box,
    h.below.trans (hm.below (by have := h.size; omega) (fun k hk => by omega)), Nat.le_trans h.size hm.size⟩
theorem NewAt.next {w W W' : World} {bt n : Nat} (h : NewAt w bt n W) (hb : Below W.heap.size W W') : NewAt w bt n W' := h.mods (Mods.of_below hb)
theorem NewAt.store {w W : World} {bt n : Nat} (h : NewAt w bt n W) (j : Nat) (v : Value) : NewAt w bt n (W.setCell ⟨w.heap.size + 1, j, none⟩ v) := h.mods (Mods.setCell (S := fun k => k = w.heap.size + 1) W ⟨w.heap.size + 1, j, none⟩ v rfl)
theorem TTree.wordsOf_nat {T : TTree} {q : Nat} (h : q < T.nodes.length) : T.wordsOf q = T.nw q := by
  have hin : inB T q = true := decide_eq_true (by omega)
  unfold TTree.wordsOf; rw [if_pos hin]; rfl
theorem TTree.kidsOf_nat {T : TTree} {q : Nat} (h : q < T.nodes.length) : T.kidsOf q = (T.kids q).map (·.1) := by
  have hin : inB T q = true := decide_eq_true (by omega)
  unfold TTree.kidsOf; rw [if_pos hin]; rfl
theorem NewAt.cells {w W : World} {bt n : Nat} (h : NewAt w bt n W) : W.cell? ⟨w.heap.size, 0, none⟩ = some (.pointer (some ⟨bt, 0, none⟩)) ∧ W.cell? ⟨w.heap.size + 1 + 1, 0, none⟩ = some (.slice (some ⟨w.heap.size + 1, 0, none⟩) n n) ∧ W.cell? ⟨w.heap.size + 1 + 1 + 1, 0, none⟩ = some (.pointer (some ⟨w.heap.size + 1 + 1, 0, none⟩)) :=
  ⟨by simp [World.cell?, h.tree], by simp [World.cell?, h.auto], by simp [World.cell?, h.box]⟩

theorem TTree.kidsA_take (T : TTree) {q i : Nat} (hi : i < (T.kids q).length) {p : Int} (hp : ((T.kids q).map (·.1)).getD i 0 = p) : (T.kidsA q).take (i + 1) = (T.kidsA q).take i ++ [(p, T.child q p)] := by
  have hl : i < (T.kidsA q).length := by unfold TTree.kidsA; simpa using hi
  rw [List.take_succ_eq_append_getElem hl]
  congr 1
  subst hp
  simp [TTree.kidsA, hi]
theorem StBlock.reKids {w : World} {g q : Nat} {S : Auto} {kv wv : Nat → Value} {v : Value} {l : List (Int × Int)} (h : StBlock w g (S.modify q fun s => { s with kids := l }) (fun j => if j = q then v else kv j) wv) (hq : q < S.length) (v' : Value) (l' : List (Int × Int)) :
    StBlock (w.setCell ⟨g, q * 4, none⟩ v') g (S.modify q fun s => { s with kids := l' }) (fun j => if j = q then v' else kv j) wv := by
  have h1 := h.setKids v' (q := q) (by simpa using hq) l'
  rw [List.modify_modify_eq] at h1
  have e2 : (fun j => if j = q then v' else (if j = q then v else kv j)) = fun j => if j = q then v' else kv j := by
    funext j
    by_cases hj : j = q <;> simp [hj]
  rw [e2] at h1
  exact h1

/-- The states when q of them are laid. -/
structure Laid (T : TTree) (q : Nat) (S : Auto) : Prop where
  len : S.length = T.nodes.length
  done : ∀ i, i < q → S.st i = ⟨T.kidsA i, -1, -1, T.nw i⟩
  todo : ∀ i, q ≤ i → i < T.nodes.length → S.st i = ⟨[], 0, 0, []⟩
theorem Laid.blank (T : TTree) : Laid T 0 (Auto.blank T.nodes.length) :=
  ⟨by simp [Auto.blank], fun i hi => by omega, fun i _ hi => by simp [Auto.st, Auto.blank, hi]⟩
theorem TTree.kidsA_length (T : TTree) (q : Nat) : (T.kidsA q).length = (T.kids q).length := by simp [kidsA]
/-- The state that phase 1 lays, its children's row aside. -/
theorem Laid.first {T : TTree} {q : Nat} {S : Auto} (h : Laid T q S) (hq : q < T.nodes.length) (l : List (Int × Int)) (i : Nat) :
    Auto.st ((((S.modify q fun s => { s with fall := -1 }).modify q fun s => { s with link := -1 }).modify q fun s => { s with words := T.nw q }).modify q fun s => { s with kids := l }) i = if i = q then ⟨l, -1, -1, T.nw q⟩ else S.st i := by
  have hql : q < S.length := by rw [h.len]; exact hq
  rw [Auto.st_modify, Auto.st_modify, Auto.st_modify, Auto.st_modify]
  by_cases hi : i = q
  · subst hi
    simp [hql]
  · simp [hi]

theorem Auto.blank_rows (w : World) (R : Nat → Prop) (n : Nat) : StRows w R (Auto.blank n) noneV noneV := by
  intro i hi
  have hi' : i < n := by simpa [Auto.blank] using hi
  have hs : Auto.st (Auto.blank n) i = ⟨[], 0, 0, []⟩ := by simp [Auto.st, Auto.blank, hi']
  rw [hs]
  exact ⟨.inl ⟨rfl, rfl⟩, .inl ⟨rfl, rfl⟩⟩

/-- How an automaton lies in memory, all of it in blocks of R. -/
def AutoIn (R : Nat → Prop) (w : World) (ba : Nat) (S : Auto) : Prop :=
  ∃ (g c : Nat) (kv wv : Nat → Value), w.cell? ⟨ba, 0, none⟩ = some (.slice (some ⟨g, 0, none⟩) S.length c) ∧ S.length ≤ c ∧ ba ≠ g ∧ StBlock w g S kv wv ∧ StRows w (fun k => k ≠ g ∧ R k) S kv wv ∧ R ba ∧ R g
theorem AutoIn.at {R : Nat → Prop} {w : World} {ba : Nat} {S : Auto} (h : AutoIn R w ba S) : ∃ g, AutoAt w ba g S := by
  obtain ⟨g, c, kv, wv, h1, h2, h3, h4, h5, h6, h7⟩ := h
  exact ⟨g, AutoAt.of_block h1 h2 h3 h4 (fun i hi => ⟨(h5 i hi).1.mono (fun _ _ h => h.1), (h5 i hi).2.mono (fun _ _ h => h.1)⟩)⟩
theorem AutoIn.lt {R : Nat → Prop} {w : World} {ba : Nat} {S : Auto} (h : AutoIn R w ba S) : ba < w.heap.size := by
  obtain ⟨g, c, kv, wv, h1, _⟩ := h
  exact World.block_lt_of_cell? w _ h1
theorem AutoIn.mods {R T : Nat → Prop} {w w1 : World} {ba : Nat} {S : Auto} (h : AutoIn R w ba S) (hm : Mods T w w1) (hd : ∀ k, R k → ¬ T k) : AutoIn R w1 ba S := by
  obtain ⟨g, c, kv, wv, h1, h2, h3, h4, h5, h6, h7⟩ := h
  exact ⟨g, c, kv, wv, (World.cell?_of_block (hm.block ba (World.block_lt_of_cell? w _ h1) (hd ba h6))).trans h1, h2, h3, h4.move (hm.block g h4.lt (hd g h7)), h5.mods hm (fun k _ h => hd k h.2), h6, h7⟩
theorem AutoIn.below {R : Nat → Prop} {w w1 : World} {ba : Nat} {S : Auto} (h : AutoIn R w ba S) (hb : Below w.heap.size w w1) : AutoIn R w1 ba S := h.mods (T := fun _ => False) (Mods.of_below hb) (fun _ _ h => h)
theorem AutoIn.mono {R R' : Nat → Prop} {w : World} {ba : Nat} {S : Auto} (h : AutoIn R w ba S) (hr : ∀ k, k < w.heap.size → R k → R' k) : AutoIn R' w ba S := by
  obtain ⟨g, c, kv, wv, h1, h2, h3, h4, h5, h6, h7⟩ := h
  exact ⟨g, c, kv, wv, h1, h2, h3, h4, fun i hi => ⟨(h5 i hi).1.mono (fun k hk h => ⟨h.1, hr k hk h.2⟩), (h5 i hi).2.mono (fun k hk h => ⟨h.1, hr k hk h.2⟩)⟩, hr ba (World.block_lt_of_cell? w _ h1) h6, hr g h4.lt h7⟩
end Go.Proofs.Ytlkiajepahkliaa
