/- automaton.New: the walk. -/
import Derived.Test.YtlkiajepahkliaaKTreeWf
import Derived.Test.YtlkiajepahkliaaKRound
namespace Go.Proofs.Ytlkiajepahkliaa
open Go.RowKit Go.Shelf Go.Proofs.YtlkiajepahkliaaW.PrintWords Go.Proofs.YtlkiajepahkliaaW.PrintLast
set_option linter.unusedVariables false
set_option linter.unusedSimpArgs false
attribute [local go_sem] Oper.semAt_some

def new10_T : Bool × List (List Nat × List Nat) := (true, [([], []), ([], []), ([1], [1]), ([2], [2]), ([3], [3]), ([], []), ([], []), ([], []), ([], []), ([6, 7, 8], [6, 7, 8]), ([5, 9], [5, 9]), ([10], [10]), ([4, 11, 9], [4, 11]), ([0, 0, 1, 2, 3, 4, 5, 6, 7, 8, 9, 10, 11, 12], [0]), ([13, 0, 1, 2, 3, 4, 5, 6, 7, 8, 9, 10, 11, 12], [13]), ([14, 12, 12, 0, 1, 2, 3, 4, 5, 6, 7, 8, 9, 10, 11, 12], [12, 14])])
def new10_B : List Nat := [0, 0, 2, 6, 14, 0, 0, 0, 0, 448, 992, 2016, 4094, 8191, 16383, 32767]
theorem new10_tab : rtab .any (opsOf Try.f52 10) = new10_T := by kernel_rfl
theorem new10_bits : waitsOk new10_T.2 new10_B = true := by kernel_rfl
def new21_T : Bool × List (List Nat × List Nat) := (true, [([], []), ([], []), ([1], [1]), ([2], [2]), ([3], [3]), ([], []), ([5], [5]), ([6], [6]), ([7], [7]), ([4, 8], [4, 8]), ([9], [9]), ([10], [10]), ([0, 0, 1, 2, 3, 4, 5, 6, 7, 8, 9, 10, 11], [0]), ([12, 0, 1, 2, 3, 4, 5, 6, 7, 8, 9, 10, 11], [12]), ([13, 11, 0, 1, 2, 3, 4, 5, 6, 7, 8, 9, 10, 11], [11, 13])])
def new21_B : List Nat := [0, 0, 2, 6, 14, 0, 32, 96, 224, 510, 1022, 2046, 4095, 8191, 16383]
theorem new21_tab : rtab .any (opsOf Try.f52 21) = new21_T := by kernel_rfl
theorem new21_bits : waitsOk new21_T.2 new21_B = true := by kernel_rfl
def new22_T : Bool × List (List Nat × List Nat) := (true, [([], []), ([0], [0]), ([1], [1]), ([2], [2]), ([], []), ([4], [4]), ([5], [5]), ([6], [6]), ([3, 7], [3, 7]), ([8], [8]), ([9], [9]), ([10], [10]), ([11], [11])])
def new22_B : List Nat := [0, 1, 3, 7, 0, 16, 48, 112, 255, 511, 1023, 2047, 4095]
theorem new22_tab : rtab .any (opsOf Try.f52 22) = new22_T := by kernel_rfl
theorem new22_bits : waitsOk new22_T.2 new22_B = true := by kernel_rfl
def new20_T : Bool × List (List Nat × List Nat) := (true, [([], []), ([], []), ([], []), ([2], [2]), ([3], [3]), ([4], [4]), ([], []), ([5, 6], [5, 6]), ([7], [7]), ([8], [8]), ([], []), ([], []), ([11], [11]), ([12], [12]), ([10, 13], [10, 13]), ([14], [14]), ([1, 9, 15], [1, 9, 15]), ([0, 0, 1, 2, 3, 4, 5, 6, 7, 8, 9, 10, 11, 12, 13, 14, 15, 16], [0]), ([17, 0, 1, 2, 3, 4, 5, 6, 7, 8, 9, 10, 11, 12, 13, 14, 15, 16], [17]), ([18, 16, 16, 0, 1, 2, 3, 4, 5, 6, 7, 8, 9, 10, 11, 12, 13, 14, 15, 16], [16, 18])])
def new20_B : List Nat := [0, 0, 0, 4, 12, 28, 0, 124, 252, 508, 0, 0, 2048, 6144, 15360, 31744, 65534, 131071, 262143, 524287]
theorem new20_tab : rtab .any (opsOf Try.f52 20) = new20_T := by kernel_rfl
theorem new20_bits : waitsOk new20_T.2 new20_B = true := by kernel_rfl
/-- What New has laid when the falls of pre are: all of it below N. -/
structure Mid (w : World) (bt : Nat) (T : TTree) (N Bt : Nat) (pre : List (Nat × Int)) (W : World) : Prop where
  new : NewAt w bt T.nodes.length W
  box : Boxed W Bt 74 (.pointer (some ⟨bt, 0, none⟩))
  size : N ≤ W.heap.size
  rows : ∃ kv wv, StBlock W (w.heap.size + 1) (T.autoTo pre) kv wv ∧ StRows W (fun k => w.heap.size + 4 ≤ k ∧ k < N) (T.autoTo pre) kv wv
theorem Mid.mods {w W W' : World} {bt N Bt : Nat} {T : TTree} {pre : List (Nat × Int)} {S : Nat → Prop} (hN : w.heap.size + 4 ≤ N) (hBt : Bt < N) (h : Mid w bt T N Bt pre W) (hm : Mods S W W') (hS : ∀ k, k < N → ¬ S k) : Mid w bt T N Bt pre W' := by
  obtain ⟨kv, wv, hb, hr⟩ := h.rows
  have hs := h.size
  have hbel : ∀ k, k < N → W'.heap[k]? = W.heap[k]? := fun k hk => hm.block k (by omega) (hS k hk)
  refine ⟨⟨(hbel _ (by omega)).trans h.new.tree, (hbel _ (by omega)).trans h.new.auto, (hbel _ (by omega)).trans h.new.box, h.new.below.trans (hm.below (by omega) (fun k hk => hS k (by omega))), Nat.le_trans h.new.size hm.size⟩,
    (hbel _ hBt).trans h.box, Nat.le_trans h.size hm.size, kv, wv, hb.move (hbel _ (by omega)), hr.mods hm (fun k _ hk => hS k hk.2)⟩
theorem Mid.own (w : World) (bt : Nat) (T : TTree) {N Bt : Nat} (hN : w.heap.size + 4 ≤ N) (hBt : Bt < N) : OwnFrom N (Mid w bt T N Bt) := fun pre W W' row h hg hr =>
  h.mods hN hBt (Mods.of_grown (S := fun k => N ≤ k) hg (fun k hk => (hr k hk).1)) (fun k hk h => by omega)
theorem keepsBox_t {n Bt bt : Nat} {A B C : World} (h : KeepsBox n Bt bt A B) (k : KeepsBox n Bt bt B C) : KeepsBox n Bt bt A C := ⟨h.1.trans k.1, fun x => k.2 (h.2 x)⟩
theorem keepsBox_b {n Bt bt : Nat} {w : World} (hn : n ≤ w.heap.size) (hBt : Bt < w.heap.size) (W : World) (l : Nat) (o o' : Obj) (hl : w.heap.size ≤ l) (h : W.heap[l]? = some o) (h1 : o.isCells = false) (h2 : o.isWalk = false) : KeepsBox n Bt bt W (W.putObj l o') :=
  ⟨belowK_b hn W l o o' hl h h1 h2, fun hb => (World.putObj_heap_other (by omega)).trans hb⟩
theorem two_cells_of {w : World} {bv : Nat} {a b : Value} {t : TypeId} (hb : w.heap[bv]? = some (.cells #[a, b] t (0, 0))) : ∀ j u, [a, b][j]? = some u → w.cell? ((⟨bv, 0, none⟩ : Addr).add j) = some u := by
  intro j u hj
  rw [addr_add, cell_of_row w bv _ _ _ (0, 0) hb, Nat.zero_add]
  match j, hj with
  | 0, hj => simpa using hj
  | 1, hj => simpa using hj
theorem cell_old {w : World} {p : Addr} {v : Value} (h : w.cell? p = some v) (o : Obj) : (w.alloc o).cell? p = some v := (((Below.refl _ w).alloc (Nat.le_refl _) o).cell (World.block_lt_of_cell? w p h)).trans h
theorem Own.below {w w1 : World} {e size n : Nat} {v : Value} {xs : List Value} {S : Nat → Prop} (h : Own w e size v n xs S) (hb : Below w.heap.size w w1) : Own w1 e size v n xs S := h.mods (T := fun _ => False) (Mods.of_below hb) (fun _ _ _ h => h)

set_option maxRecDepth 100000 in
set_option maxHeartbeats 4000000 in
theorem autoNew_calls (bt : Nat) (T : TTree) (col : Nat → Option Nat) (w : World) (h : TreeAt w bt T col) (wf : TreeWf T) (hw : T.words.length ≤ 1048576) :
    Calls Try.prog 52 #[.pointer (some ⟨bt, 0, none⟩)] w fun e w' => ∃ ba, e = .returned (.pointer (some ⟨ba, 0, none⟩)) ∧ AutoIn (fun k => w.heap.size ≤ k ∧ k < w'.heap.size) w' ba T.auto ∧ Below w.heap.size w w' := by
  have ok := wf.ok
  have wf' := Lib.hid wf
  have h' := Lib.hid h
  have ok' := Lib.hid ok
  have hle := ok.le
  have hpos := ok.pos
  obtain ⟨i1, hi1, hz1, hzs1, hzb1⟩ := info_parts infoState
  obtain ⟨i2, hie2, hz2, hzs2, hzb2⟩ := info_parts infoAEdge
  clear h ok wf
  refine callsIn_wide.1 (?_ : CallsIn Fence.wide 9 _ _ _ _ _)
  refine callsIn_of_wp_marks Try.func52 rfl trivial ?_ rfl
  refine wpIn_wide.2 ?_
  simp only [Try.ntmps52, List.size_toArray, List.length_cons, List.length_nil, Nat.reduceAdd, Nat.reduceSub, Array.replicate_succ, Array.replicate_zero, List.push_toArray, List.append_toArray, List.nil_append, List.cons_append]
  have hB1 : Below w.heap.size w (w.alloc (.cells #[.pointer (some ⟨bt, 0, none⟩)] 74)) := (Below.refl _ _).alloc (Nat.le_refl _) _
  have ht1 := Lib.hid (h'.out.below hB1)
  obtain ⟨MC, hMC⟩ : ∃ MC, madeCells #[.slice none 0 0, .int .i64 0, .int .i64 0, .slice none 0 0] (T.nodes.length * 4) = MC := ⟨_, rfl⟩
  have hmk : Sem.run Try.prog (Instr.makeSlice 137 (.int .i64 (T.nodes.length : Int)) (.int .i64 (T.nodes.length : Int))) (w.alloc (.cells #[.pointer (some ⟨bt, 0, none⟩)] 74)) =
      .ok (.slice (some ⟨w.heap.size + 1, 0, none⟩) T.nodes.length T.nodes.length) ((w.alloc (.cells #[.pointer (some ⟨bt, 0, none⟩)] 74)).alloc (.cells MC 143)) := by
    have h2 := run_make (P := Try.prog) (w.alloc (.cells #[.pointer (some ⟨bt, 0, none⟩)] 74)) 137 143 i1 _ Try.underlying137 hi1 hz1 .i64 .i64 T.nodes.length T.nodes.length (by omega) (by omega) (by rw [hzb1]; omega) (by omega)
    rw [h2, hzs1, ← hMC]
    simp [Value.cells]
  have hMC' := Lib.hid hMC
  clear hMC
  go_wp2_with fail
  refine (treeLen_calls bt T col _ ht1.out ok'.out).mono ?_
  rintro e w' ⟨rfl, rfl⟩
  go_wp2_with fail
  have hbtl : bt < w.heap.size := by obtain ⟨g, c, hc, _⟩ := h'.out.cells ok'.out.pos; exact World.block_lt_of_cell? w _ hc
  obtain ⟨W0, hW0⟩ : ∃ W0, ((((w.alloc (.cells #[.pointer (some ⟨bt, 0, none⟩)] 74)).alloc (.cells MC 143)).alloc (.cells #[.slice (some ⟨w.heap.size + 1, 0, none⟩) T.nodes.length T.nodes.length] 139)).alloc (.cells #[.pointer (some ⟨w.heap.size + 1 + 1, 0, none⟩)] 75)) = W0 := ⟨_, rfl⟩
  have hNew : Hid (NewAt w bt T.nodes.length W0) := by
    rw [← hW0]
    refine Lib.hid ⟨?_, ?_, ?_, ?_, by simp⟩
    · rw [Below.heap_alloc _ _ _ (by simp; omega), Below.heap_alloc _ _ _ (by simp; omega), Below.heap_alloc _ _ _ (by simp)]; exact World.alloc_heap_new w _
    · rw [Below.heap_alloc _ _ _ (by simp)]; have := World.alloc_heap_new ((w.alloc (.cells #[.pointer (some ⟨bt, 0, none⟩)] 74)).alloc (.cells MC 143)) (.cells #[.slice (some ⟨w.heap.size + 1, 0, none⟩) T.nodes.length T.nodes.length] 139); simpa using this
    · have := World.alloc_heap_new (((w.alloc (.cells #[.pointer (some ⟨bt, 0, none⟩)] 74)).alloc (.cells MC 143)).alloc (.cells #[.slice (some ⟨w.heap.size + 1, 0, none⟩) T.nodes.length T.nodes.length] 139)) (.cells #[.pointer (some ⟨w.heap.size + 1 + 1, 0, none⟩)] 75); simpa using this
    · exact (((hB1.alloc (by simp) _).alloc (by simp; omega) _).alloc (by simp; omega) _)
  have hBlk : Hid (StBlock W0 (w.heap.size + 1) (Auto.blank T.nodes.length) noneV noneV) := by
    rw [← hW0]
    refine Lib.hid ?_
    unfold StBlock
    rw [Below.heap_alloc _ _ _ (by simp), Below.heap_alloc _ _ _ (by simp)]
    have := World.alloc_heap_new (w.alloc (.cells #[.pointer (some ⟨bt, 0, none⟩)] 74)) (.cells MC 143)
    rw [World.size_alloc] at this
    rw [this, ← hMC'.out, ← made_st]
  rw [hW0]
  clear hW0 hmk hMC' ht1 hB1
  go_loopw [22] (fun x wr => ∃ (q : Nat) (S : Auto) (kv wv : Nat → Value), x = .int .i64 q ∧ q ≤ T.nodes.length ∧ Laid T q S ∧ NewAt w bt T.nodes.length wr ∧ StBlock wr (w.heap.size + 1) S kv wv ∧ StRows wr (fun k => w.heap.size + 4 ≤ k) S kv wv ∧ (∀ i, q ≤ i → kv i = .slice none 0 0))
    (fun x _ => T.nodes.length - (intOf x).toNat)
  case atStart => exact ⟨0, _, _, _, rfl, Nat.zero_le _, Laid.blank T, hNew.out, hBlk.out, Auto.blank_rows _ _ _, fun _ _ => rfl⟩
  case round =>
    obtain ⟨q, S, kv, wv, rfl, hq, hl, hn, hb, hr, hk⟩ := hrel
    obtain ⟨n1, n2, n3⟩ := hn.cells
    have hl' := Lib.hid hl
    have hn' := Lib.hid hn
    have hb' := Lib.hid hb
    have hr' := Lib.hid hr
    have hk' := Lib.hid hk
    have hT := Lib.hid (h'.out.below hn.below)
    clear hl hn hb hr hk
    by_cases hlt : q < T.nodes.length
    · have hwo := TTree.wordsOf_nat hlt
      have hwo' := Lib.hid hwo
      clear hwo
      go_wp2_with fail
      refine (words_calls bt T col q _ hT.out ok'.out).mono ?_
      rintro e w1 ⟨A1, c1, rfl, ho1, hb1⟩
      rw [hwo'.out] at ho1 ⊢
      have hql : q < S.length := by rw [hl'.out.len]; exact hlt
      obtain ⟨v1, hv1⟩ : ∃ v1, Value.slice A1 (T.nw q).length c1 = v1 := ⟨_, rfl⟩
      rw [hv1] at ho1
      have b1 := hb'.out.move (hb1.block _ hb'.out.lt)
      have k1 := (b1.cells hql).2.1
      have f1 := b1.frozen (q * 4 + 1)
      have b2 := b1.setFall (-1) hql
      have k2 := (b2.cells (by simpa using hql)).2.2.1
      have f2 := b2.frozen (q * 4 + 2)
      have b3 := b2.setLink (-1) (by simpa using hql)
      have k3 := (b3.cells (by simpa using hql)).2.2.2
      have f3 := b3.frozen (q * 4 + 3)
      have b4 := b3.setWords v1 (by simpa using hql) (T.nw q)
      have hB4 := (((hn'.out.next hb1).store (q * 4 + 1) (.int .i64 (-1))).store (q * 4 + 2) (.int .i64 (-1))).store (q * 4 + 3) v1
      have n4 := hB4.cells.1
      have b4' := Lib.hid b4
      have hB4' := Lib.hid hB4
      have ho1' := Lib.hid ho1
      have hb1' := Lib.hid hb1
      subst hv1
      clear b1 b2 b3 b4 hB4 ho1 hb1
      go_wp2_with fail
      have hT4 := Lib.hid (h'.out.below hB4'.out.below)
      refine (kids_calls bt T col q _ hT4.out ok'.out).mono ?_
      rintro e w5 ⟨A5, c5, rfl, ho5, hb5⟩
      have hko := TTree.kidsOf_nat (T := T) hlt
      rw [hko] at ho5 ⊢
      have hB5 := Lib.hid (hB4'.out.next hb5)
      have b5 := Lib.hid (b4'.out.move (hb5.block _ b4'.out.lt))
      have hrow := Lib.hid (IntRow.of_own ho5)
      have hlen5 : ((T.kids q).map (·.1)).length ≤ 1048576 := by rw [List.length_map]; have := ok'.out.few q hlt; omega
      obtain ⟨ps, hps⟩ : ∃ ps, (T.kids q).map (·.1) = ps := ⟨_, rfl⟩
      rw [hps] at hrow hlen5 ⊢
      have hps' := Lib.hid hps
      have ho5' := Lib.hid ho5
      have hb5' := Lib.hid hb5
      clear ho5 hb5 hko hps
      obtain ⟨wv5, hwv5⟩ : ∃ wv5, (fun j => if j = q then Value.slice A1 (T.nw q).length c1 else wv j) = wv5 := ⟨_, rfl⟩
      rw [hwv5] at b5
      have hst5 := Lib.hid (fun l => hl'.out.first hlt l)
      have hlenS : Hid ((((S.modify q fun s => { s with fall := -1 }).modify q fun s => { s with link := -1 }).modify q fun s => { s with words := T.nw q }).length = T.nodes.length) := Lib.hid (by simp [hl'.out.len])
      obtain ⟨S5, hS5⟩ : ∃ S5 : Auto, (((S.modify q fun s => { s with fall := -1 }).modify q fun s => { s with link := -1 }).modify q fun s => { s with words := T.nw q }) = S5 := ⟨_, rfl⟩
      rw [hS5] at b5 hst5 hlenS
      have hkq := hk'.out q (Nat.le_refl _)
      have hkeq : (fun j => if j = q then Value.slice none 0 0 else kv j) = kv := by
        funext j
        by_cases hj : j = q
        · rw [if_pos hj, hj, hkq]
        · rw [if_neg hj]
      have hkeq' := Lib.hid hkeq
      have hm15 : Mods (fun k => k = w.heap.size + 1) w1 w5 := (((Mods.setCell (S := fun k => k = w.heap.size + 1) w1 ⟨w.heap.size + 1, q * 4 + 1, none⟩ (.int .i64 (-1)) rfl).trans (Mods.setCell (S := fun k => k = w.heap.size + 1) _ ⟨w.heap.size + 1, q * 4 + 2, none⟩ (.int .i64 (-1)) rfl) (fun _ _ h => h)).trans (Mods.setCell (S := fun k => k = w.heap.size + 1) _ ⟨w.heap.size + 1, q * 4 + 3, none⟩ (.slice A1 (T.nw q).length c1) rfl) (fun _ _ h => h)).trans (Mods.of_below hb5'.out) (fun _ _ h => h)
      have hrw5 : RowS w5 (fun k => w.heap.size + 4 ≤ k) 1 (.slice A1 (T.nw q).length c1) (T.nw q).length (intCells .i64 (T.nw q)) := ((RowS.of_own ho1'.out).mono (S' := fun k => w.heap.size + 4 ≤ k) (fun k _ hk => Nat.le_trans hn'.out.size hk)).mods hm15 (fun k _ hk => by omega)
      have hrs5 : StRows w5 (fun k => w.heap.size + 4 ≤ k) S kv wv := (hr'.out.below hb1'.out).mods hm15 (fun k _ hk => by omega)
      have hrw5' := Lib.hid hrw5
      have hrs5' := Lib.hid hrs5
      have hwv5' := Lib.hid hwv5
      clear hkq hkeq hS5 hm15 hrw5 hrs5 hwv5
      go_wp2_with fail
      go_loopw [47] (fun x wr => ∃ (i : Nat) (kvn : Value), x = .int .i64 i ∧ i ≤ ps.length ∧ StBlock wr (w.heap.size + 1) (S5.modify q fun s => { s with kids := (T.kidsA q).take i }) (fun j => if j = q then kvn else kv j) wv5 ∧
        Own wr 145 2 kvn i (edgeCells ((T.kidsA q).take i)) (fun k => w5.heap.size ≤ k) ∧ Mods (fun k => k = w.heap.size + 1) w5 wr) (fun x _ => ps.length - (intOf x).toNat)
      case atStart => exact ⟨0, .slice none 0 0, rfl, Nat.zero_le _, by rw [hkeq'.out]; exact b5.out.anyKids q _, Own.nil _ _ _ _, Mods.refl _ _⟩
      case round =>
        obtain ⟨i, kvn, rfl, hi, hblk, hown, hmod⟩ := hrel
        have hN := Lib.hid (hB5.out.mods hmod)
        have hblk' := Lib.hid hblk
        have hown' := Lib.hid hown
        have hmod' := Lib.hid hmod
        have hTr := Lib.hid (h'.out.below hN.out.below)
        clear hblk hown hmod
        by_cases hi2 : i < ps.length
        · have hrs : RowS wr (fun k => w5.heap.size ≤ k ∨ w.heap.size + 4 ≤ k) 1 (.slice A5 ps.length c5) ps.length (intCells .u64 ps) := by
            have h1 := RowS.of_own ho5'.out
            rw [hps'.out] at h1
            refine (h1.mods hmod'.out (fun k _ hk e => ?_)).mono (fun k _ hk => .inr ?_)
            · have := hB4'.out.size; omega
            · have := hB4'.out.size; omega
          obtain ⟨A6, c6, hv6, _, hr6⟩ := hrs.ints
          injection hv6 with hA6 _ hc6
          subst hA6; subst hc6
          obtain ⟨bp, offp, rfl, hcp⟩ := hr6.resolve_left (by omega)
          have d1 := hcp i hi2
          obtain ⟨p, hp⟩ : ∃ p, ps.getD i 0 = p := ⟨_, rfl⟩
          rw [hp] at d1
          have hp' := Lib.hid hp
          obtain ⟨n1, n2, n3⟩ := hN.out.cells
          have hqS : q < S5.length := by rw [hlenS.out]; exact hlt
          have k1 := (hblk'.out.cells (q := q) (by simpa using hqS)).1
          rw [if_pos rfl] at k1
          have kf := hblk'.out.frozen (q * 4)
          clear hcp hr6 hrs hp
          go_wp2_with fail
          refine startQ_ (n := 16) (S := fun w' => w'.cell? ⟨w.heap.size, 0, none⟩ = some (.pointer (some ⟨bt, 0, none⟩)) ∧ w'.cell? ⟨w.heap.size + 1, q * 4, none⟩ = some kvn) (ds := [15]) #[false, false, false, false, false, false, false, false, false, false, false, false, false, false, false, false] (by kernel_rfl) (by kernel_rfl) rfl rfl ⟨n1, k1⟩ (fun hHeld => ?_); refine with_tabW new10_tab new10_bits (fun HT_ HW_ => ?_)
          refine pure_ (i := 0) (N := some 51) (v := ?_) (a' := ?_) #[true, false, false, false, false, false, false, false, false, false, false, false, false, false, false, false] rfl rfl (any_of HT_.out (by kernel_rfl)) (fun _ _ _ h => (h.2.1 _ rfl).elim) (Or.inl ⟨by rfl, ?_⟩) ?_ ?_
          rotate_left
          · intro w'
            go_simp
            with_reducible rfl
          rotate_left
          · simp only [Act.put, List.setIfInBounds_toArray, List.set_cons_zero, List.set_cons_succ, i64_w, i32_w]
            rfl
          refine pure_ (i := 1) (N := some 52) (v := ?_) (a' := ?_) #[true, true, false, false, false, false, false, false, false, false, false, false, false, false, false, false] rfl rfl (any_of HT_.out (by kernel_rfl)) (fun _ _ _ h => (h.2.1 _ rfl).elim) (Or.inl ⟨by rfl, ?_⟩) ?_ ?_
          rotate_left
          · intro w'
            go_simp
            with_reducible rfl
          rotate_left
          · simp only [Act.put, List.setIfInBounds_toArray, List.set_cons_zero, List.set_cons_succ, i64_w, i32_w]
            rfl
          refine pure_ (i := 2) (N := some 53) (v := ?_) (a' := ?_) #[true, true, true, false, false, false, false, false, false, false, false, false, false, false, false, false] rfl rfl (any_of HT_.out (by kernel_rfl)) (fun _ _ _ h => (h.2.1 _ rfl).elim) (Or.inl ⟨by rfl, ?_⟩) ?_ ?_
          rotate_left
          · intro w'
            go_simp
            with_reducible rfl
          rotate_left
          · simp only [Act.put, List.setIfInBounds_toArray, List.set_cons_zero, List.set_cons_succ, i64_w, i32_w]
            rfl
          refine pure_ (i := 3) (N := some 54) (v := ?_) (a' := ?_) #[true, true, true, true, false, false, false, false, false, false, false, false, false, false, false, false] rfl rfl (any_of HT_.out (by kernel_rfl)) (fun _ _ _ h => (h.2.1 _ rfl).elim) (Or.inl ⟨by rfl, ?_⟩) ?_ ?_
          rotate_left
          · intro w'
            go_simp
            with_reducible rfl
          rotate_left
          · simp only [Act.put, List.setIfInBounds_toArray, List.set_cons_zero, List.set_cons_succ, i64_w, i32_w]
            rfl
          refine pure_ (i := 5) (N := some 56) (v := ?_) (a' := ?_) #[true, true, true, true, false, true, false, false, false, false, false, false, false, false, false, false] rfl rfl (any_of HT_.out (by kernel_rfl)) (fun _ _ _ h => (h.2.1 _ rfl).elim) (Or.inl ⟨by rfl, ?_⟩) ?_ ?_
          rotate_left
          · intro w'
            go_simp
            with_reducible rfl
          rotate_left
          · simp only [Act.put, List.setIfInBounds_toArray, List.set_cons_zero, List.set_cons_succ, i64_w, i32_w]
            rfl
          refine pure_ (i := 7) (N := some 58) (v := ?_) (a' := ?_) #[true, true, true, true, false, true, false, true, false, false, false, false, false, false, false, false] rfl rfl (any_of HT_.out (by kernel_rfl)) (fun _ _ _ h => (h.2.1 _ rfl).elim) (Or.inl ⟨by rfl, ?_⟩) ?_ ?_
          rotate_left
          · intro w'
            go_simp
            with_reducible rfl
          rotate_left
          · simp only [Act.put, List.setIfInBounds_toArray, List.set_cons_zero, List.set_cons_succ, i64_w, i32_w]
            rfl
          refine pure_ (i := 8) (N := some 59) (v := ?_) (a' := ?_) #[true, true, true, true, false, true, false, true, true, false, false, false, false, false, false, false] rfl rfl (any_of HT_.out (by kernel_rfl)) (fun _ _ _ h => (h.2.1 _ rfl).elim) (Or.inl ⟨by rfl, ?_⟩) ?_ ?_
          rotate_left
          · intro w'
            go_simp
            with_reducible rfl
          rotate_left
          · simp only [Act.put, List.setIfInBounds_toArray, List.set_cons_zero, List.set_cons_succ, i64_w, i32_w]
            rfl
          refine take_ (i := 4) (N := some 55) (v := ?_) (a' := ?_) #[true, true, true, true, true, true, false, true, true, false, false, false, false, false, false, false] rfl rfl (take_ofW HT_.out HW_.out (by kernel_rfl)) (fun _ _ _ h => (h.2.1 _ rfl).elim) (Or.inl ⟨by rfl, ?_⟩) hHeld ?_ ?_
          rotate_left
          · rintro w' ⟨s0, s1⟩
            go_simp
            with_reducible rfl
          rotate_left
          · simp only [Act.put, List.setIfInBounds_toArray, List.set_cons_zero, List.set_cons_succ, i64_w, i32_w]
            rfl
          refine take_ (i := 6) (N := some 57) (v := ?_) (a' := ?_) #[true, true, true, true, true, true, true, true, true, false, false, false, false, false, false, false] rfl rfl (take_ofW HT_.out HW_.out (by kernel_rfl)) (fun _ _ _ h => (h.2.1 _ rfl).elim) (Or.inl ⟨by rfl, ?_⟩) hHeld ?_ ?_
          rotate_left
          · rintro w' ⟨s0, s1⟩
            go_simp
            with_reducible rfl
          rotate_left
          · simp only [Act.put, List.setIfInBounds_toArray, List.set_cons_zero, List.set_cons_succ, i64_w, i32_w]
            rfl
          refine one_ (i := 9) (N := some 60) #[true, true, true, true, true, true, true, true, true, true, false, false, false, false, false, false] rfl rfl (one_of HT_.out (by kernel_rfl)) (by decide) (fun K hK => ?_)
          refine goes_ Try.func81 (by kernel_rfl) rfl #[.pointer (some ⟨bt, 0, none⟩), .int .i64 q, .int .u64 p] (by rfl) rfl rfl (by (try simp only [List.map_toArray, List.map_cons, List.map_nil]); first | done | rfl) ?_
          refine (child_calls bt T col q p _ (hTr.out.below ((Below.refl _ _).drew)) ok'.out).mono ?_
          rintro e w7 ⟨rfl, hb7⟩
          refine ⟨_, rfl, ?_⟩
          have hb7x : Below wr.heap.size wr w7 := ((Below.refl _ _).drew).trans hb7
          refine hK.out _ _ ⟨(hb7x.cell (p := ⟨w.heap.size, 0, none⟩) (World.block_lt_of_cell? wr _ n1)).trans n1, (hb7x.cell (p := ⟨w.heap.size + 1, q * 4, none⟩) (World.block_lt_of_cell? wr _ k1)).trans k1⟩ (fun hHeld => ?_)
          clear hK K
          refine norm_ (a' := ?_) ?_ ?_
          rotate_left
          · show Act.put _ (some 60) _ = _
            simp only [Act.put, List.setIfInBounds_toArray, List.set_cons_zero, List.set_cons_succ, i64_w, i32_w]
            rfl
          refine pure_ (i := 10) (N := some 61) (v := ?_) (a' := ?_) #[true, true, true, true, true, true, true, true, true, true, true, false, false, false, false, false] rfl rfl (any_of HT_.out (by kernel_rfl)) (fun _ _ _ h => (h.2.1 _ rfl).elim) (Or.inl ⟨by rfl, ?_⟩) ?_ ?_
          rotate_left
          · intro w'
            go_simp
            with_reducible rfl
          rotate_left
          · simp only [Act.put, List.setIfInBounds_toArray, List.set_cons_zero, List.set_cons_succ, i64_w, i32_w]
            rfl
          refine one_ (i := 11) (N := some 62) #[true, true, true, true, true, true, true, true, true, true, true, true, false, false, false, false] rfl rfl (one_of HT_.out (by kernel_rfl)) (by decide) (fun K hK => ?_)
          have hb7' := Lib.hid hb7x
          have hc7 := hHeld.1
          have hk7 := hHeld.2
          refine value_ (v := .slice (some ⟨w7.heap.size, 0, none⟩) 1 1) (w1 := w7.alloc (.cells #[.int .u64 p, .int .i64 (T.child q p)] 145)) (by rfl) rfl (by go_simp) ?_
          refine hK.out _ _ ⟨cell_old hc7 _, cell_old hk7 _⟩ (fun hHeld => ?_)
          clear hK K
          refine norm_ (a' := ?_) ?_ ?_
          rotate_left
          · show Act.put _ (some 62) _ = _
            simp only [Act.put, List.setIfInBounds_toArray, List.set_cons_zero, List.set_cons_succ, i64_w, i32_w]
            rfl
          refine one_ (i := 12) (N := some 63) #[true, true, true, true, true, true, true, true, true, true, true, true, true, false, false, false] rfl rfl (one_of HT_.out (by kernel_rfl)) (by decide) (fun K hK => ?_)
          obtain ⟨v8, w8, hr8, ho8, hg8, _, hat8⟩ := run_append_own_at (P := Try.prog) (w7.alloc (.cells #[.int .u64 p, .int .i64 (T.child q p)] 145)) 0 141 141 145 i2 _ 2 16 Try.underlying141 hie2 hz2 hzs2 hzb2 rfl (by decide) kvn i _ ((hown'.out.below hb7'.out).1.alloc _) ⟨w7.heap.size, 0, none⟩ 1 1 [.int .u64 p, .int .i64 (T.child q p)] rfl (two_cells_of (heap_alloc_new w7 _)) (edge_one p (T.child q p)) (by unfold maxLen; omega) (by omega) (Nat.zero_le _)
          obtain ⟨A8, c8, rfl⟩ := ownsRow_slice ho8
          have hne8 : kvn.ownBlock ≠ some w.heap.size := fun e => by have h9 := hown'.out.2 _ e; have := hB5.out.size; omega
          have hng8 : kvn.ownBlock ≠ some (w.heap.size + 1) := fun e => by have h9 := hown'.out.2 _ e; have := hB5.out.size; omega
          have z1 : w8.cell? ⟨w.heap.size, 0, none⟩ = some (.pointer (some ⟨bt, 0, none⟩)) := (World.cell?_of_block (hg8.block w.heap.size (by have := hb7'.out.size; have := hN.out.size; simp; omega) (Ne.symm hne8))).trans hHeld.1
          have z2 : w8.cell? ⟨w.heap.size + 1, q * 4, none⟩ = some kvn := (World.cell?_of_block (hg8.block (w.heap.size + 1) (by have := hb7'.out.size; have := hN.out.size; simp; omega) (Ne.symm hng8))).trans hHeld.2
          refine value_ (v := .slice A8 (i + 1) c8) (w1 := w8) (by rfl) rfl (exec_append (.tmp 55) (.tmp 62) 141 rfl rfl rfl hr8) ?_
          clear hr8
          refine hK.out _ _ ⟨z1, z2⟩ (fun hHeld => ?_)
          clear hK K
          refine norm_ (a' := ?_) ?_ ?_
          rotate_left
          · show Act.put _ (some 63) _ = _
            simp only [Act.put, List.setIfInBounds_toArray, List.set_cons_zero, List.set_cons_succ, i64_w, i32_w]
            rfl
          refine pure_ (i := 13) (N := some 64) (v := ?_) (a' := ?_) #[true, true, true, true, true, true, true, true, true, true, true, true, true, true, false, false] rfl rfl (any_of HT_.out (by kernel_rfl)) (fun _ _ _ h => (h.2.1 _ rfl).elim) (Or.inl ⟨by rfl, ?_⟩) ?_ ?_
          rotate_left
          · intro w'
            go_simp
            with_reducible rfl
          rotate_left
          · simp only [Act.put, List.setIfInBounds_toArray, List.set_cons_zero, List.set_cons_succ, i64_w, i32_w]
            rfl
          refine pure_ (i := 14) (N := some 65) (v := ?_) (a' := ?_) #[true, true, true, true, true, true, true, true, true, true, true, true, true, true, true, false] rfl rfl (any_of HT_.out (by kernel_rfl)) (fun _ _ _ h => (h.2.1 _ rfl).elim) (Or.inl ⟨by rfl, ?_⟩) ?_ ?_
          rotate_left
          · intro w'
            go_simp
            with_reducible rfl
          rotate_left
          · simp only [Act.put, List.setIfInBounds_toArray, List.set_cons_zero, List.set_cons_succ, i64_w, i32_w]
            rfl
          refine last_ (i := 15) (N := none) #[true, true, true, true, true, true, true, true, true, true, true, true, true, true, true, true] rfl rfl (one_of HT_.out (by kernel_rfl)) (by decide) (fun K hK => ?_)
          have hblk8 : StBlock w8 (w.heap.size + 1) (S5.modify q fun s => { s with kids := (T.kidsA q).take i }) (fun j => if j = q then kvn else kv j) wv5 := (hblk'.out.move (hb7'.out.block _ hblk'.out.lt)).move ((hg8.block (w.heap.size + 1) (by have := hb7'.out.size; have := hN.out.size; simp; omega) (Ne.symm hng8)).trans (Below.heap_alloc _ _ _ (by have := hb7'.out.size; have := hN.out.size; omega)))
          have f8 := hblk8.frozen (q * 4)
          refine skip_ (w1 := ?_) (by rfl) rfl ?_ ?_
          rotate_left
          · go_simp
            rfl
          refine hK.out _ _ ?_
          clear hK K
          refine done_ (done_of HT_.out (by kernel_rfl)) ?_
          refine ⟨(fun h => by cases h), (fun _ h => by cases h), ?_⟩
          have hps2 := hps'.out
          have hi4 : i < (T.kids q).length := by rw [← hps2, List.length_map] at hi2; exact hi2
          have htk := T.kidsA_take hi4 (p := p) (by rw [hps2]; exact hp'.out)
          have hsz7 : w.heap.size + 1 < w7.heap.size := by have := hb7'.out.size; have := hN.out.size; omega
          have hsz5 : w5.heap.size ≤ w7.heap.size := Nat.le_trans hmod'.out.size hb7'.out.size
          have hm8 : Mods (fun k => k = w.heap.size + 1) w5 w8 := by
            have m1 := hmod'.out.trans (Mods.of_below (S := fun k => k = w.heap.size + 1) hb7'.out) (fun _ _ h => h)
            have m2 := m1.trans (Mods.alloc (S := fun k => k = w.heap.size + 1) w7 (.cells #[.int .u64 p, .int .i64 (T.child q p)] 145)) (fun _ _ h => h)
            exact m2.trans (Mods.of_grown (S := fun k => w5.heap.size ≤ k) hg8 (fun k hk => hown'.out.2 k hk)) (fun k h1 h2 => by omega)
          have hown8 : Own w8 145 2 (.slice A8 (i + 1) c8) (i + 1) (edgeCells ((T.kidsA q).take (i + 1))) (fun k => w5.heap.size ≤ k) := by
            rw [htk]
            refine ⟨by simpa [edgeCells] using ho8, fun k hk => ?_⟩
            rcases hat8 with h9 | h9
            · exact hown'.out.2 k (h9 ▸ hk)
            · rw [h9] at hk; injection hk with hk; simp at hk; omega
          have hblk9 := Lib.hid (hblk8.reKids hqS (.slice A8 (i + 1) c8) ((T.kidsA q).take (i + 1)))
          have hown9 := Lib.hid (hown8.move (w1 := w8.setCell ⟨w.heap.size + 1, q * 4, none⟩ (.slice A8 (i + 1) c8)) (fun k hk h9 => Below.heap_setCell _ _ _ _ (by have := hB5.out.size; simp only; omega)))
          have hmod9 := Lib.hid (hm8.trans (Mods.setCell (S := fun k => k = w.heap.size + 1) w8 ⟨w.heap.size + 1, q * 4, none⟩ (.slice A8 (i + 1) c8) rfl) (fun _ _ h => h))
          generalize w8.setCell ⟨w.heap.size + 1, q * 4, none⟩ (.slice A8 (i + 1) c8) = w9 at hblk9 hown9 hmod9 ⊢
          clear hps2 htk hm8 hown8 hblk8 ho8 hg8 hat8 z1 z2 f8 hHeld hne8 hng8
          go_wp2_with fail
          go_roundw
          case rel => exact ⟨i + 1, _, by go_num, by omega, hblk9.out, hown9.out, hmod9.out⟩
          case measure => simp [intOf]; omega
        · obtain rfl : i = ps.length := by omega
          have hps2 := hps'.out
          have hpl : ps.length = (T.kidsA q).length := by rw [← hps2, List.length_map, TTree.kidsA_length]
          have hall : (T.kidsA q).take ps.length = T.kidsA q := List.take_of_length_le (by omega)
          have hb9 := hblk'.out
          rw [hall] at hb9
          have ho9 := hown'.out
          rw [hall, hpl] at ho9
          have hS9 : ∀ i, Auto.st (S5.modify q fun s => { s with kids := T.kidsA q }) i = if i = q then ⟨T.kidsA q, -1, -1, T.nw q⟩ else S.st i := hst5.out (T.kidsA q)
          have hlaid : Laid T (q + 1) (S5.modify q fun s => { s with kids := T.kidsA q }) := ⟨by rw [List.length_modify, hlenS.out], fun i hi => by
            rw [hS9]
            by_cases hiq : i = q
            · rw [if_pos hiq, hiq]
            · rw [if_neg hiq]; exact hl'.out.done i (by omega), fun i hi1 hi2 => by rw [hS9, if_neg (by omega)]; exact hl'.out.todo i (by omega) hi2⟩
          have hsz5 : w.heap.size + 4 ≤ w5.heap.size := hB5.out.size
          have hrows : StRows wr (fun k => w.heap.size + 4 ≤ k) (S5.modify q fun s => { s with kids := T.kidsA q }) (fun j => if j = q then kvn else kv j) wv5 := by
            intro i hi
            rw [List.length_modify, hlenS.out] at hi
            rw [hS9, ← hwv5'.out]
            by_cases hiq : i = q
            · subst hiq
              rw [if_pos rfl]
              simp only [if_true]
              exact ⟨(RowS.of_own ho9).mono (fun k _ hk => by omega), hrw5'.out.mods hmod'.out (fun k _ hk => by omega)⟩
            · rw [if_neg hiq]
              simp only [if_neg hiq]
              have := hrs5'.out i (by rw [hl'.out.len]; exact hi)
              exact ⟨this.1.mods hmod'.out (fun k _ hk => by omega), this.2.mods hmod'.out (fun k _ hk => by omega)⟩
          have hkk : ∀ i, q + 1 ≤ i → (fun j => if j = q then kvn else kv j) i = .slice none 0 0 := fun i hi => by
            simp only
            rw [if_neg (by omega)]
            exact hk'.out i (by omega)
          have hlaid' := Lib.hid hlaid
          have hrows' := Lib.hid hrows
          have hkk' := Lib.hid hkk
          have hb9' := Lib.hid hb9
          clear hps2 hpl hall hb9 ho9 hS9 hlaid hrows hkk
          go_wp2_with fail
          go_roundw
          case rel => exact ⟨q + 1, _, _, _, by go_num, by omega, hlaid'.out, hN.out, hb9'.out, hrows'.out, hkk'.out⟩
          case measure => simp [intOf]; omega
    · obtain rfl : q = T.nodes.length := by omega
      have hS0 := Laid.eq hl'.out
      go_wp2_with (go_at_call 82; refine (levels_make bt _).mono ?_; rintro e w' ⟨rfl, rfl⟩)
      have hB0 : Below wr.heap.size wr (wr.alloc (.cells #[.pointer (some ⟨bt, 0, none⟩)] 74)) := (Below.refl _ _).alloc (Nat.le_refl _) _
      have hboxL : Boxed (wr.alloc (.cells #[.pointer (some ⟨bt, 0, none⟩)] 74)) wr.heap.size 74 (.pointer (some ⟨bt, 0, none⟩)) := Boxed.new _ _ _
      obtain ⟨W0, hW0⟩ : ∃ W0, (wr.alloc (.cells #[.pointer (some ⟨bt, 0, none⟩)] 74)) = W0 := ⟨_, rfl⟩
      have hsz0 : W0.heap.size = wr.heap.size + 1 := by rw [← hW0]; simp
      rw [hW0] at hB0 hboxL ⊢
      have hMid : Mid w bt T W0.heap.size wr.heap.size [] W0 := by
        have hnew := hn'.out.next hB0
        refine ⟨hnew, hboxL, Nat.le_refl _, kv, wv, ?_, ?_⟩
        · have := hb'.out.move (hB0.block _ hb'.out.lt)
          rw [hS0] at this
          exact this
        · have := hr'.out
          rw [hS0] at this
          exact fun i hi => ⟨((this i hi).1.below hB0).mono (fun k hk h => ⟨h, hk⟩), ((this i hi).2.below hB0).mono (fun k hk h => ⟨h, hk⟩)⟩
      have hsn : w.heap.size + 4 ≤ W0.heap.size := hMid.new.size
      have hBt0 : wr.heap.size < W0.heap.size := by omega
      have hBt1 : w.heap.size + 4 ≤ wr.heap.size := hn'.out.size
      have hB0w : Below w.heap.size w W0 := hMid.new.below
      have hMid' := Lib.hid hMid
      have hd1 : ∀ i, 0 < i → i < T.nodes.length → 1 ≤ (T.node i).depth := fun i h0 hi => by
        have h2 := (wf'.out.up i h0 hi).2.1
        have h3 := wf'.out.ok.up i hi
        have h4 := (wf'.out.ok.depth (T.node i).up.toNat (by omega)).1
        omega
      obtain ⟨Bt, hBt⟩ : ∃ Bt, wr.heap.size = Bt := ⟨_, rfl⟩
      rw [hBt] at hBt0 hBt1 hboxL hMid'
      simp only [hBt]
      have hseq := Lib.hid (levels_row 8 (by decide) Bt bt T col w h'.out ok'.out wf'.out.root.1 hd1 W0 hB0w hboxL)
      clear hMid hd1 hS0 hW0 n1 n2 n3 hl' hn' hb' hr' hk' hT hsz0 hB0 hBt
      refine wpIn_wide.1 (?_ : Code.wpIn Fence.wide 9 _ _ _ _ _)
      refine wpIn_range_row rfl (by decide) (gf := 114) (lb := #[.pointer (some ⟨Bt, 0, none⟩)]) rfl trivial (enters_of Try.func114 (by kernel_rfl) rfl) hseq.out keepsBox_t (keepsBox_b hB0w.size hBt0) (Below.refl _ _) (fun _ => rfl) (Mid w bt T W0.heap.size Bt) (Mid.own w bt T hsn hBt0) hMid'.out ?a1 ?assign ?body ?done
      case assign =>
        intro l x W K hK
        gi_wp2
        exact hK
      case done =>
        intro D W hD hi hdef
        obtain ⟨d1, d2, d3⟩ := hi.new.cells
        have hi2 : Mid w bt T W0.heap.size Bt T.levels (W.putObj D (.deferred none)) := hi.mods hsn hBt0 (Mods.of_grown (S := fun k => W0.heap.size ≤ k) (grownBy_putObj' W D (.deferred none)) (fun k hk => by cases hk; exact hD)) (fun k hk h => by omega)
        have hi2' := Lib.hid hi2
        clear hi hi2
        go_wp2_with fail
        refine ⟨by simp, .inl ⟨_, _, rfl, run_takeDeferred hdef, ?_⟩⟩
        refine ⟨_, results_tmp rfl _ _ _, w.heap.size + 1 + 1, rfl, ?_, hi2'.out.new.below⟩
        obtain ⟨hnew, hbox, hsz, kv3, wv3, hb3, hr3⟩ := hi2'.out
        have hlen : List.length T.auto = T.nodes.length := (Half.autoTo wf'.out _ T.levels rfl (List.prefix_refl _)).len
        have h4 := hnew.size
        refine ⟨w.heap.size + 1, T.nodes.length, kv3, wv3, by rw [hlen]; exact hnew.cells.2.1, by rw [hlen]; exact Nat.le_refl _, by omega, hb3, fun i hi => ?_, ⟨by omega, by omega⟩, ⟨by omega, by omega⟩⟩
        have h5 := hr3 i hi
        exact ⟨h5.1.mono (fun k hk h => ⟨by omega, by omega, hk⟩), h5.2.mono (fun k hk h => ⟨by omega, by omega, hk⟩)⟩
      case body =>
        rintro l pre ⟨n, up⟩ W hx hi
        obtain ⟨hx0, hx1, hx2, hx3, hx4, hx5⟩ := levels_next wf'.out hx
        simp only at hx0 hx1 hx2 hx3 hx4 hx5
        have hupn := (wf'.out.up n hx0 hx1).1
        obtain ⟨u, rfl⟩ : ∃ u : Nat, up = u := ⟨up.toNat, by omega⟩
        have hh := Half.autoTo wf'.out _ pre rfl ((List.prefix_append _ _).trans hx)
        have hh2 := Half.autoTo wf'.out _ (pre ++ [(n, (u : Int))]) rfl hx
        obtain ⟨f, f1, f2, f3, f4, f5⟩ := hh.step_spec wf'.out hx
        have ok1 := hh.ok1 wf'.out hw hx
        have hstep := T.autoTo_snoc pre (n, (u : Int))
        have hi' := Lib.hid hi
        obtain ⟨S, hS⟩ : ∃ S, T.autoTo pre = S := ⟨_, rfl⟩
        obtain ⟨hnew, hbox, hsizeW, kv2, wv2, hb2, hr2⟩ := hi
        rw [hS] at hh f3 f4 f5 ok1 hstep hb2 hr2
        have hup := wf'.out.up n hx0 hx1
        have hup2 := ok'.out.up n hx1
        have hpath := path_up wf'.out hx0 hx1
        rw [← hx2] at hup hup2 hpath
        rw [Int.toNat_natCast] at hpath
        obtain ⟨pl, hpl⟩ : ∃ pl, (T.path n).length = pl + 1 := ⟨(T.path u).length, by rw [hpath]; simp⟩
        have hpl2 := path_len wf'.out hx1
        have hdep := wf'.out.ok.depth n hx1
        have hSl : S.length = T.nodes.length := hh.len
        have hplb : pl + 1 ≤ 1048576 := by omega
        have hlast : (T.path n)[pl]? = some (T.node n).p := by
          rw [hpath] at hpl ⊢
          have : (T.path u).length = pl := by simpa using hpl
          rw [← this]; simp
        have hul : (T.path u).length < (T.path n).length := by rw [hpath]; simp
        have huT : u < T.nodes.length := by omega
        have hun : u ≠ n := fun e => by subst e; omega
        have hfn : f ≠ n := fun e => by subst e; simp only at f2; omega
        have hfT : f < T.nodes.length := f1.1
        obtain ⟨pn, hpn⟩ : ∃ pn, (T.node n).p = pn := ⟨_, rfl⟩
        rw [hpn] at hlast
        have hnS : n < S.length := by rw [hSl]; exact hx1
        -- what is read of the states
        obtain ⟨fu, hfu⟩ : ∃ fu, (S.st u).fall = fu := ⟨_, rfl⟩
        have s1u : (S.fall1 (n, (u : Int))).st u = S.st u := by
          unfold Auto.fall1
          rw [Auto.st_modify, if_neg (fun h => hun h.1)]
        have hnx : (u : Int) ≠ 0 → (S.fall1 (n, (u : Int))).next fu pn = f := fun hz => by
          have h1 := f3
          unfold Auto.fall2 at h1
          rw [if_neg hz, Auto.st_modify, if_pos ⟨rfl, by simpa [Auto.fall1] using hnS⟩] at h1
          simp only [Int.toNat_natCast] at h1
          rw [s1u, hfu, hpn] at h1
          exact h1
        have hS2 : (u : Int) ≠ 0 → Auto.fall2 T (S.fall1 (n, (u : Int))) (n, (u : Int)) = (S.fall1 (n, (u : Int))).modify n fun s => { s with fall := (f : Int) } := fun hz => by
          unfold Auto.fall2
          rw [if_neg hz]
          simp only [Int.toNat_natCast]
          rw [s1u, hfu, hpn, hnx hz]
        have hS2z : (u : Int) = 0 → Auto.fall2 T (S.fall1 (n, (u : Int))) (n, (u : Int)) = S.fall1 (n, (u : Int)) := fun hz => by
          unfold Auto.fall2
          rw [if_pos hz]
        have hclose : ∀ (wf : World), StBlock wf (w.heap.size + 1) (Auto.fallStep T S (n, (u : Int))) kv2 wv2 → Mods (fun k => k = w.heap.size + 1) W wf → KeepsFrom W0.heap.size W wf ∧ KeepsBox w.heap.size Bt bt W wf ∧ Mid w bt T W0.heap.size Bt (pre ++ [(n, (u : Int))]) wf := by
          intro wf hb hm
          refine ⟨⟨hm.size, fun k o hB hk ho => (hm.block k (Array.getElem?_eq_some_iff.1 hk).1 (by omega)).trans hk⟩, ⟨hm.below (Nat.le_trans (Nat.le_add_right _ 4) hnew.size) (fun k hk h => by omega), fun hx => (hm.block Bt hx.lt (by omega)).trans hx⟩, hnew.mods hm, (hm.block Bt hbox.lt (by omega)).trans hbox, Nat.le_trans hsizeW hm.size, kv2, wv2, by rw [hstep]; exact hb, fun i hi => ?_⟩
          have hi2 : i < T.nodes.length := by rw [hh2.len] at hi; exact hi
          rw [(hh2.same i hi2).1, (hh2.same i hi2).2, ← (hh.same i hi2).1, ← (hh.same i hi2).2]
          have h1 := hr2 i (by rw [hSl]; exact hi2)
          exact ⟨h1.1.mods hm (fun k _ hk => by omega), h1.2.mods hm (fun k _ hk => by omega)⟩
        have hrow8 : ∀ w8, Mods (fun k => k = w.heap.size + 1) W w8 → StRows w8 (fun k => k ≠ w.heap.size + 1) (S.fall1 (n, (u : Int))) kv2 wv2 := by
          intro w8 hm i hi
          have h2 : ((S.fall1 (n, (u : Int))).st i).kids = (S.st i).kids ∧ ((S.fall1 (n, (u : Int))).st i).words = (S.st i).words := by
            unfold Auto.fall1
            rw [Auto.st_modify]
            split <;> exact ⟨rfl, rfl⟩
          have h1 := hr2 i (by simpa [Auto.fall1] using hi)
          rw [h2.1, h2.2]
          exact ⟨(h1.1.mods hm (fun k _ hk => by omega)).mono (fun k _ hk => by omega), (h1.2.mods hm (fun k _ hk => by omega)).mono (fun k _ hk => by omega)⟩
        have hrow8' := Lib.hid hrow8
        clear hrow8
        have hclose' := Lib.hid hclose
        clear hclose
        have hS2' := Lib.hid hS2
        have hS2z' := Lib.hid hS2z
        have hnx' := Lib.hid hnx
        have hfu' := Lib.hid hfu
        have s1u' := Lib.hid s1u
        have hlast' := Lib.hid hlast
        have hh' := Lib.hid hh
        have hh2' := Lib.hid hh2
        have f3' := Lib.hid f3
        have f4' := Lib.hid f4
        have f5' := Lib.hid f5
        have ok1' := Lib.hid ok1
        have hstep' := Lib.hid hstep
        have hpl' := Lib.hid hpl
        have hb2' := Lib.hid hb2
        have hr2' := Lib.hid hr2
        have hnew' := Lib.hid hnew
        have hbox' := Lib.hid hbox
        have f1' := Lib.hid f1
        have hSl' := Lib.hid hSl
        have hun' := Lib.hid hun
        have hfn' := Lib.hid hfn
        have hTW := Lib.hid (h'.out.below hnew.below)
        have hgW : w.heap.size + 4 ≤ W.heap.size := hnew.size
        obtain ⟨n1, n2, n3⟩ := hnew.cells
        clear hlast hh hh2 f3 f4 f5 ok1 hstep hpn hx2 hpl hb2 hr2 hnew hbox hup hx hx3 hx4 hx5 hS hpath hpl2 hdep f1 hSl hun hfn hS2 hS2z hnx hfu s1u hul hupn
        by_cases hz : (u : Int) = 0
        · have hz1 : ((u : Int) != 0) = false := by simpa using hz
          have hz2 : ((u : Int) == 0) = true := by simpa using hz
          have hzz := Lib.hid hz
          clear hz
          gi_wp2_with (refine ⟨trivial, ?_⟩; gi_at_call 83; refine (CallsIn.inRound l (callsIn_wide.2 (path_calls bt T col n _ hTW.out ok'.out hx1))).mono ?_; rintro e w1 ⟨A1, c1, rfl, ho1, hb1⟩; rw [hpl'.out] at ho1 ⊢; have hN1 := Lib.hid (hnew'.out.next hb1); obtain ⟨n1, n2, n3⟩ := hN1.out.cells; have B1 := Lib.hid (hb2'.out.move (hb1.block _ hb2'.out.lt)); have k1 := (B1.out.cells hnS).2.1; have r1 := B1.out.frozen (n * 4 + 1); have ho1' := Lib.hid ho1; have hb1' := Lib.hid hb1; clear ho1 hb1)
          obtain ⟨w8, hw8⟩ : ∃ w8, w1.setCell ⟨w.heap.size + 1, n * 4 + 1, none⟩ (.int .i64 0) = w8 := ⟨_, rfl⟩
          have hN8 := Lib.hid (hN1.out.store (n * 4 + 1) (.int .i64 0))
          have hM8 : Hid (Mods (fun k => k = w.heap.size + 1) W w8) := Lib.hid (hw8 ▸ (Mods.of_below (S := fun k => k = w.heap.size + 1) hb1'.out).trans (Mods.setCell (S := fun k => k = w.heap.size + 1) w1 ⟨w.heap.size + 1, n * 4 + 1, none⟩ (.int .i64 0) rfl) (fun _ _ h => h))
          obtain ⟨S2, hS2e⟩ : ∃ S2, S2 = Auto.fall2 T (S.fall1 (n, (u : Int))) (n, (u : Int)) := ⟨_, rfl⟩
          have hS2e' := Lib.hid hS2e
          have B8 := Lib.hid (B1.out.setFall 0 hnS)
          have hfe : Hid (S.modify n (fun s => { s with fall := 0 }) = S2) := Lib.hid (by rw [hS2e, hS2z'.out hzz.out]; rfl)
          rw [hw8] at hN8 B8 ⊢
          rw [hfe.out] at B8
          clear hS2e hw8 hfe n1 n2 n3 k1 r1
          obtain ⟨lk, hlk⟩ : ∃ lk, (S.st f).link = lk := ⟨_, rfl⟩
          have hlk' := Lib.hid hlk
          have hf0 : (0 : Int) ≤ (f : Int) := by omega
          have hf1 : (f : Int) < (T.nodes.length : Int) := by omega
          have hS2l : Hid (S2.length = T.nodes.length) := Lib.hid (by rw [hS2e'.out]; unfold Auto.fall2 Auto.fall1; split <;> simp [hSl'.out])
          have hst2 : Hid (∀ i, S2.st i = if i = n then { S.st n with fall := (f : Int) } else S.st i) := Lib.hid (by rw [hS2e'.out]; exact f4'.out)
          have hn2 : n < S2.length := by rw [hS2l.out]; exact hx1
          have hf2 : f < S2.length := by rw [hS2l.out]; exact hfT
          have c1 := (B8.out.cells hn2).2.1
          have c2 := (B8.out.cells hf2).2.2.1
          have c3 := (B8.out.cells hf2).2.2.2
          have c4 := (B8.out.cells hn2).2.2.1
          have q2 := B8.out.frozen (n * 4 + 2)
          rw [hst2.out, if_pos rfl] at c1
          rw [hst2.out, if_neg hfn'.out, hlk] at c2
          simp only at c1
          obtain ⟨n1, n2, n3⟩ := hN8.out.cells
          clear hlk
          gi_wp2
          refine startR_ (n := 15) (S := fun w' => w'.cell? ⟨w.heap.size + 1 + 1 + 1, 0, none⟩ = some (.pointer (some ⟨w.heap.size + 1 + 1, 0, none⟩)) ∧ w'.cell? ⟨w.heap.size + 1 + 1, 0, none⟩ = some (.slice (some ⟨w.heap.size + 1, 0, none⟩) T.nodes.length T.nodes.length) ∧ w'.cell? ⟨w.heap.size + 1, n * 4 + 1, none⟩ = some (.int .i64 (f : Int)) ∧ w'.cell? ⟨w.heap.size + 1, f * 4 + 2, none⟩ = some (.int .i64 lk)) (ds := [14]) #[false, false, false, false, false, false, false, false, false, false, false, false, false, false, false] (by kernel_rfl) (by kernel_rfl) rfl rfl ⟨n3, n2, c1, c2⟩ (fun hHeld => ?_); refine with_tabW new21_tab new21_bits (fun HT_ HW_ => ?_)
          refine pure_ (i := 0) (N := some 105) (v := ?_) (a' := ?_) #[true, false, false, false, false, false, false, false, false, false, false, false, false, false, false] rfl rfl (any_of HT_.out (by kernel_rfl)) (fun _ _ _ h => (h.2.1 _ rfl).elim) (Or.inl ⟨by rfl, ?_⟩) ?_ ?_
          rotate_left
          · intro w'
            go_simp
            with_reducible rfl
          rotate_left
          · simp only [Act.put, List.setIfInBounds_toArray, List.set_cons_zero, List.set_cons_succ, i64_w, i32_w]
            rfl
          refine pure_ (i := 5) (N := some 110) (v := ?_) (a' := ?_) #[true, false, false, false, false, true, false, false, false, false, false, false, false, false, false] rfl rfl (any_of HT_.out (by kernel_rfl)) (fun _ _ _ h => (h.2.1 _ rfl).elim) (Or.inl ⟨by rfl, ?_⟩) ?_ ?_
          rotate_left
          · intro w'
            go_simp
            with_reducible rfl
          rotate_left
          · simp only [Act.put, List.setIfInBounds_toArray, List.set_cons_zero, List.set_cons_succ, i64_w, i32_w]
            rfl
          refine pure_ (i := 6) (N := some 111) (v := ?_) (a' := ?_) #[true, false, false, false, false, true, true, false, false, false, false, false, false, false, false] rfl rfl (any_of HT_.out (by kernel_rfl)) (fun _ _ _ h => (h.2.1 _ rfl).elim) (Or.inl ⟨by rfl, ?_⟩) ?_ ?_
          rotate_left
          · intro w'
            go_simp
            with_reducible rfl
          rotate_left
          · simp only [Act.put, List.setIfInBounds_toArray, List.set_cons_zero, List.set_cons_succ, i64_w, i32_w]
            rfl
          refine pure_ (i := 7) (N := some 112) (v := ?_) (a' := ?_) #[true, false, false, false, false, true, true, true, false, false, false, false, false, false, false] rfl rfl (any_of HT_.out (by kernel_rfl)) (fun _ _ _ h => (h.2.1 _ rfl).elim) (Or.inl ⟨by rfl, ?_⟩) ?_ ?_
          rotate_left
          · intro w'
            go_simp
            with_reducible rfl
          rotate_left
          · simp only [Act.put, List.setIfInBounds_toArray, List.set_cons_zero, List.set_cons_succ, i64_w, i32_w]
            rfl
          refine take_ (i := 1) (N := some 106) (v := ?_) (a' := ?_) #[true, true, false, false, false, true, true, true, false, false, false, false, false, false, false] rfl rfl (take_ofW HT_.out HW_.out (by kernel_rfl)) (fun _ _ _ h => (h.2.1 _ rfl).elim) (Or.inl ⟨by rfl, ?_⟩) hHeld ?_ ?_
          rotate_left
          · rintro w' ⟨s0, s1, s2, s3⟩
            go_simp
            with_reducible rfl
          rotate_left
          · simp only [Act.put, List.setIfInBounds_toArray, List.set_cons_zero, List.set_cons_succ, i64_w, i32_w]
            rfl
          refine pure_ (i := 2) (N := some 107) (v := ?_) (a' := ?_) #[true, true, true, false, false, true, true, true, false, false, false, false, false, false, false] rfl rfl (any_of HT_.out (by kernel_rfl)) (fun _ _ _ h => (h.2.1 _ rfl).elim) (Or.inl ⟨by rfl, ?_⟩) ?_ ?_
          rotate_left
          · intro w'
            go_simp
            with_reducible rfl
          rotate_left
          · simp only [Act.put, List.setIfInBounds_toArray, List.set_cons_zero, List.set_cons_succ, i64_w, i32_w]
            rfl
          refine pure_ (i := 3) (N := some 108) (v := ?_) (a' := ?_) #[true, true, true, true, false, true, true, true, false, false, false, false, false, false, false] rfl rfl (any_of HT_.out (by kernel_rfl)) (fun _ _ _ h => (h.2.1 _ rfl).elim) (Or.inl ⟨by rfl, ?_⟩) ?_ ?_
          rotate_left
          · intro w'
            go_simp
            with_reducible rfl
          rotate_left
          · simp only [Act.put, List.setIfInBounds_toArray, List.set_cons_zero, List.set_cons_succ, i64_w, i32_w]
            rfl
          refine take_ (i := 4) (N := some 109) (v := ?_) (a' := ?_) #[true, true, true, true, true, true, true, true, false, false, false, false, false, false, false] rfl rfl (take_ofW HT_.out HW_.out (by kernel_rfl)) (fun _ _ _ h => (h.2.1 _ rfl).elim) (Or.inl ⟨by rfl, ?_⟩) hHeld ?_ ?_
          rotate_left
          · rintro w' ⟨s0, s1, s2, s3⟩
            go_simp
            with_reducible rfl
          rotate_left
          · simp only [Act.put, List.setIfInBounds_toArray, List.set_cons_zero, List.set_cons_succ, i64_w, i32_w]
            rfl
          refine take_ (i := 8) (N := some 113) (v := ?_) (a' := ?_) #[true, true, true, true, true, true, true, true, true, false, false, false, false, false, false] rfl rfl (take_ofW HT_.out HW_.out (by kernel_rfl)) (fun _ _ _ h => (h.2.1 _ rfl).elim) (Or.inl ⟨by rfl, ?_⟩) hHeld ?_ ?_
          rotate_left
          · rintro w' ⟨s0, s1, s2, s3⟩
            go_simp
            with_reducible rfl
          rotate_left
          · simp only [Act.put, List.setIfInBounds_toArray, List.set_cons_zero, List.set_cons_succ, i64_w, i32_w]
            rfl
          refine pure_ (i := 9) (N := some 114) (v := ?_) (a' := ?_) #[true, true, true, true, true, true, true, true, true, true, false, false, false, false, false] rfl rfl (any_of HT_.out (by kernel_rfl)) (fun _ _ _ h => (h.2.1 _ rfl).elim) (Or.inl ⟨by rfl, ?_⟩) ?_ ?_
          rotate_left
          · intro w'
            go_simp
            with_reducible rfl
          rotate_left
          · simp only [Act.put, List.setIfInBounds_toArray, List.set_cons_zero, List.set_cons_succ, i64_w, i32_w]
            rfl
          refine pure_ (i := 10) (N := some 115) (v := ?_) (a' := ?_) #[true, true, true, true, true, true, true, true, true, true, true, false, false, false, false] rfl rfl (any_of HT_.out (by kernel_rfl)) (fun _ _ _ h => (h.2.1 _ rfl).elim) (Or.inl ⟨by rfl, ?_⟩) ?_ ?_
          rotate_left
          · intro w'
            go_simp
            with_reducible rfl
          rotate_left
          · simp only [Act.put, List.setIfInBounds_toArray, List.set_cons_zero, List.set_cons_succ, i64_w, i32_w]
            rfl
          refine take_ (i := 11) (N := some 116) (v := ?_) (a' := ?_) #[true, true, true, true, true, true, true, true, true, true, true, true, false, false, false] rfl rfl (take_ofW HT_.out HW_.out (by kernel_rfl)) (fun _ _ _ h => (h.2.1 _ rfl).elim) (Or.inl ⟨by rfl, ?_⟩) hHeld ?_ ?_
          rotate_left
          · rintro w' ⟨s0, s1, s2, s3⟩
            go_simp
            with_reducible rfl
          rotate_left
          · simp only [Act.put, List.setIfInBounds_toArray, List.set_cons_zero, List.set_cons_succ, i64_w, i32_w]
            rfl
          refine pure_ (i := 12) (N := some 117) (v := ?_) (a' := ?_) #[true, true, true, true, true, true, true, true, true, true, true, true, true, false, false] rfl rfl (any_of HT_.out (by kernel_rfl)) (fun _ _ _ h => (h.2.1 _ rfl).elim) (Or.inl ⟨by rfl, ?_⟩) ?_ ?_
          rotate_left
          · intro w'
            go_simp
            with_reducible rfl
          rotate_left
          · simp only [Act.put, List.setIfInBounds_toArray, List.set_cons_zero, List.set_cons_succ, i64_w, i32_w]
            rfl
          refine pure_ (i := 13) (N := some 118) (v := ?_) (a' := ?_) #[true, true, true, true, true, true, true, true, true, true, true, true, true, true, false] rfl rfl (any_of HT_.out (by kernel_rfl)) (fun _ _ _ h => (h.2.1 _ rfl).elim) (Or.inl ⟨by rfl, ?_⟩) ?_ ?_
          rotate_left
          · intro w'
            go_simp
            with_reducible rfl
          rotate_left
          · simp only [Act.put, List.setIfInBounds_toArray, List.set_cons_zero, List.set_cons_succ, i64_w, i32_w]
            rfl
          refine last_ (i := 14) (N := none) #[true, true, true, true, true, true, true, true, true, true, true, true, true, true, true] rfl rfl (one_of HT_.out (by kernel_rfl)) (by decide) (fun K hK => ?_)
          refine skip_ (w1 := ?_) (by rfl) rfl ?_ ?_
          rotate_left
          · go_simp
            rfl
          refine hK.out _ _ ?_
          clear hK K
          refine done_ (done_of HT_.out (by kernel_rfl)) ?_
          refine ⟨(fun h => by cases h), (fun _ h => by cases h), ?_⟩
          obtain ⟨w9, hw9⟩ : ∃ w9, (w8.setCell ⟨w.heap.size + 1, n * 4 + 2, none⟩ (.int .i64 lk)).drew = w9 := ⟨_, rfl⟩
          have hN9 : NewAt w bt T.nodes.length w9 := by rw [← hw9]; exact (hN8.out.store (n * 4 + 2) (.int .i64 lk)).mods (Mods.refl _ _).drew
          have hM9 : Mods (fun k => k = w.heap.size + 1) W w9 := by rw [← hw9]; exact (hM8.out.trans (Mods.setCell (S := fun k => k = w.heap.size + 1) w8 ⟨w.heap.size + 1, n * 4 + 2, none⟩ (.int .i64 lk) rfl) (fun _ _ h => h)).drew
          have hS3 : S2.modify n (fun s => { s with link := lk }) = S2.fall3 (n, (u : Int)) := by
            unfold Auto.fall3
            simp only
            rw [hst2.out n, if_pos rfl]
            simp only [Int.toNat_natCast]
            rw [hst2.out f, if_neg hfn'.out, hlk'.out]
          have B9 : StBlock w9 (w.heap.size + 1) (S2.fall3 (n, (u : Int))) kv2 wv2 := by rw [← hS3, ← hw9]; exact B8.out.setLink lk hn2
          obtain ⟨wl, hwl⟩ : ∃ wl, (T.nw f).length = wl := ⟨_, rfl⟩
          have hwle : wl ≤ 1048576 := by have := ok'.out.nw f hfT; omega
          have hwvf : ∃ Aw cw, wv2 f = .slice Aw wl cw := by
            have h1 := (hr2'.out f (by rw [hSl'.out]; exact hfT)).2
            rw [(hh'.out.same f hfT).2, hwl] at h1
            rcases h1 with ⟨h2, h3⟩ | ⟨b, off, c, h2, _⟩
            · exact ⟨none, 0, by rw [h2, h3]⟩
            · exact ⟨_, c, h2⟩
          obtain ⟨Aw, cw, hwvf⟩ := hwvf
          have hn3 : n < (S2.fall3 (n, (u : Int))).length := by unfold Auto.fall3; simpa using hn2
          have hf3 : f < (S2.fall3 (n, (u : Int))).length := by unfold Auto.fall3; simpa using hf2
          have s3n : ((S2.fall3 (n, (u : Int))).st n).fall = f := by rw [← hS3, Auto.st_modify, if_pos ⟨rfl, hn2⟩]; simp only; rw [hst2.out, if_pos rfl]
          have s3w : ((S2.fall3 (n, (u : Int))).st f).words = T.nw f := by rw [← hS3, Auto.st_modify, if_neg (fun h => hfn'.out h.1), hst2.out, if_neg hfn'.out]; exact (hh'.out.same f hfT).2
          have s3n' := Lib.hid s3n
          have s3w' := Lib.hid s3w
          have c1 := (B9.cells hn3).2.1
          have c3 := (B9.cells hf3).2.2.2
          rw [s3n] at c1
          rw [hwvf] at c3
          have c4 := (B9.cells hn3).2.2.1
          have q2 := B9.frozen (n * 4 + 2)
          have hN9' := Lib.hid hN9
          have hM9' := Lib.hid hM9
          have B9' := Lib.hid B9
          have hwl' := Lib.hid hwl
          obtain ⟨n1, n2, n3⟩ := hN9.cells
          rw [hw9]
          clear hHeld hw9 hS3 hN9 hM9 B9 hwl hwvf s3n s3w
          gi_wp2
          refine startR_ (n := 13) (S := fun w' => w'.cell? ⟨w.heap.size + 1 + 1 + 1, 0, none⟩ = some (.pointer (some ⟨w.heap.size + 1 + 1, 0, none⟩)) ∧ w'.cell? ⟨w.heap.size + 1 + 1, 0, none⟩ = some (.slice (some ⟨w.heap.size + 1, 0, none⟩) T.nodes.length T.nodes.length) ∧ w'.cell? ⟨w.heap.size + 1, n * 4 + 1, none⟩ = some (.int .i64 (f : Int)) ∧ w'.cell? ⟨w.heap.size + 1, f * 4 + 3, none⟩ = some (.slice Aw wl cw)) (ds := []) #[false, false, false, false, false, false, false, false, false, false, false, false, false] (by kernel_rfl) (by kernel_rfl) rfl rfl ⟨n3, n2, c1, c3⟩ (fun hHeld => ?_); refine with_tabW new22_tab new22_bits (fun HT_ HW_ => ?_)
          refine pure_ (i := 4) (N := some 123) (v := ?_) (a' := ?_) #[false, false, false, false, true, false, false, false, false, false, false, false, false] rfl rfl (any_of HT_.out (by kernel_rfl)) (fun _ _ _ h => (h.2.1 _ rfl).elim) (Or.inl ⟨by rfl, ?_⟩) ?_ ?_
          rotate_left
          · intro w'
            go_simp
            with_reducible rfl
          rotate_left
          · simp only [Act.put, List.setIfInBounds_toArray, List.set_cons_zero, List.set_cons_succ, i64_w, i32_w]
            rfl
          refine pure_ (i := 5) (N := some 124) (v := ?_) (a' := ?_) #[false, false, false, false, true, true, false, false, false, false, false, false, false] rfl rfl (any_of HT_.out (by kernel_rfl)) (fun _ _ _ h => (h.2.1 _ rfl).elim) (Or.inl ⟨by rfl, ?_⟩) ?_ ?_
          rotate_left
          · intro w'
            go_simp
            with_reducible rfl
          rotate_left
          · simp only [Act.put, List.setIfInBounds_toArray, List.set_cons_zero, List.set_cons_succ, i64_w, i32_w]
            rfl
          refine pure_ (i := 6) (N := some 125) (v := ?_) (a' := ?_) #[false, false, false, false, true, true, true, false, false, false, false, false, false] rfl rfl (any_of HT_.out (by kernel_rfl)) (fun _ _ _ h => (h.2.1 _ rfl).elim) (Or.inl ⟨by rfl, ?_⟩) ?_ ?_
          rotate_left
          · intro w'
            go_simp
            with_reducible rfl
          rotate_left
          · simp only [Act.put, List.setIfInBounds_toArray, List.set_cons_zero, List.set_cons_succ, i64_w, i32_w]
            rfl
          refine take_ (i := 0) (N := some 119) (v := ?_) (a' := ?_) #[true, false, false, false, true, true, true, false, false, false, false, false, false] rfl rfl (take_ofW HT_.out HW_.out (by kernel_rfl)) (fun _ _ _ h => (h.2.1 _ rfl).elim) (Or.inl ⟨by rfl, ?_⟩) hHeld ?_ ?_
          rotate_left
          · rintro w' ⟨s0, s1, s2, s3⟩
            go_simp
            with_reducible rfl
          rotate_left
          · simp only [Act.put, List.setIfInBounds_toArray, List.set_cons_zero, List.set_cons_succ, i64_w, i32_w]
            rfl
          refine pure_ (i := 1) (N := some 120) (v := ?_) (a' := ?_) #[true, true, false, false, true, true, true, false, false, false, false, false, false] rfl rfl (any_of HT_.out (by kernel_rfl)) (fun _ _ _ h => (h.2.1 _ rfl).elim) (Or.inl ⟨by rfl, ?_⟩) ?_ ?_
          rotate_left
          · intro w'
            go_simp
            with_reducible rfl
          rotate_left
          · simp only [Act.put, List.setIfInBounds_toArray, List.set_cons_zero, List.set_cons_succ, i64_w, i32_w]
            rfl
          refine pure_ (i := 2) (N := some 121) (v := ?_) (a' := ?_) #[true, true, true, false, true, true, true, false, false, false, false, false, false] rfl rfl (any_of HT_.out (by kernel_rfl)) (fun _ _ _ h => (h.2.1 _ rfl).elim) (Or.inl ⟨by rfl, ?_⟩) ?_ ?_
          rotate_left
          · intro w'
            go_simp
            with_reducible rfl
          rotate_left
          · simp only [Act.put, List.setIfInBounds_toArray, List.set_cons_zero, List.set_cons_succ, i64_w, i32_w]
            rfl
          refine take_ (i := 3) (N := some 122) (v := ?_) (a' := ?_) #[true, true, true, true, true, true, true, false, false, false, false, false, false] rfl rfl (take_ofW HT_.out HW_.out (by kernel_rfl)) (fun _ _ _ h => (h.2.1 _ rfl).elim) (Or.inl ⟨by rfl, ?_⟩) hHeld ?_ ?_
          rotate_left
          · rintro w' ⟨s0, s1, s2, s3⟩
            go_simp
            with_reducible rfl
          rotate_left
          · simp only [Act.put, List.setIfInBounds_toArray, List.set_cons_zero, List.set_cons_succ, i64_w, i32_w]
            rfl
          refine take_ (i := 7) (N := some 126) (v := ?_) (a' := ?_) #[true, true, true, true, true, true, true, true, false, false, false, false, false] rfl rfl (take_ofW HT_.out HW_.out (by kernel_rfl)) (fun _ _ _ h => (h.2.1 _ rfl).elim) (Or.inl ⟨by rfl, ?_⟩) hHeld ?_ ?_
          rotate_left
          · rintro w' ⟨s0, s1, s2, s3⟩
            go_simp
            with_reducible rfl
          rotate_left
          · simp only [Act.put, List.setIfInBounds_toArray, List.set_cons_zero, List.set_cons_succ, i64_w, i32_w]
            rfl
          refine pure_ (i := 8) (N := some 127) (v := ?_) (a' := ?_) #[true, true, true, true, true, true, true, true, true, false, false, false, false] rfl rfl (any_of HT_.out (by kernel_rfl)) (fun _ _ _ h => (h.2.1 _ rfl).elim) (Or.inl ⟨by rfl, ?_⟩) ?_ ?_
          rotate_left
          · intro w'
            go_simp
            with_reducible rfl
          rotate_left
          · simp only [Act.put, List.setIfInBounds_toArray, List.set_cons_zero, List.set_cons_succ, i64_w, i32_w]
            rfl
          refine pure_ (i := 9) (N := some 128) (v := ?_) (a' := ?_) #[true, true, true, true, true, true, true, true, true, true, false, false, false] rfl rfl (any_of HT_.out (by kernel_rfl)) (fun _ _ _ h => (h.2.1 _ rfl).elim) (Or.inl ⟨by rfl, ?_⟩) ?_ ?_
          rotate_left
          · intro w'
            go_simp
            with_reducible rfl
          rotate_left
          · simp only [Act.put, List.setIfInBounds_toArray, List.set_cons_zero, List.set_cons_succ, i64_w, i32_w]
            rfl
          refine take_ (i := 10) (N := some 129) (v := ?_) (a' := ?_) #[true, true, true, true, true, true, true, true, true, true, true, false, false] rfl rfl (take_ofW HT_.out HW_.out (by kernel_rfl)) (fun _ _ _ h => (h.2.1 _ rfl).elim) (Or.inl ⟨by rfl, ?_⟩) hHeld ?_ ?_
          rotate_left
          · rintro w' ⟨s0, s1, s2, s3⟩
            go_simp
            with_reducible rfl
          rotate_left
          · simp only [Act.put, List.setIfInBounds_toArray, List.set_cons_zero, List.set_cons_succ, i64_w, i32_w]
            rfl
          refine pure_ (i := 11) (N := some 130) (v := ?_) (a' := ?_) #[true, true, true, true, true, true, true, true, true, true, true, true, false] rfl rfl (any_of HT_.out (by kernel_rfl)) (fun _ _ _ h => (h.2.1 _ rfl).elim) (Or.inl ⟨by rfl, ?_⟩) ?_ ?_
          rotate_left
          · intro w'
            go_simp
            with_reducible rfl
          rotate_left
          · simp only [Act.put, List.setIfInBounds_toArray, List.set_cons_zero, List.set_cons_succ, i64_w, i32_w]
            rfl
          refine pure_ (i := 12) (N := some 131) (v := ?_) (a' := ?_) #[true, true, true, true, true, true, true, true, true, true, true, true, true] rfl rfl (any_of HT_.out (by kernel_rfl)) (fun _ _ _ h => (h.2.1 _ rfl).elim) (Or.inl ⟨by rfl, ?_⟩) ?_ ?_
          rotate_left
          · intro w'
            go_simp
            with_reducible rfl
          rotate_left
          · simp only [Act.put, List.setIfInBounds_toArray, List.set_cons_zero, List.set_cons_succ, i64_w, i32_w]
            rfl
          refine done_ (done_of HT_.out (by kernel_rfl)) ?_
          refine ⟨(fun h => by cases h), (fun _ h => by cases h), ?_⟩
          have hfs : Auto.fallStep T S (n, (u : Int)) = (S2.fall3 (n, (u : Int))).fall4 (n, (u : Int)) := by rw [hS2e'.out]; rfl
          have hf4 : (S2.fall3 (n, (u : Int))).fall4 (n, (u : Int)) = if 0 < wl then (S2.fall3 (n, (u : Int))).modify n (fun s => { s with link := (f : Int) }) else S2.fall3 (n, (u : Int)) := by
            unfold Auto.fall4
            simp only [s3n'.out, Int.toNat_natCast, s3w'.out, hwl'.out]
          rw [hf4] at hfs
          have hfs' := Lib.hid hfs
          clear hfs hf4 hHeld
          by_cases hw0 : 0 < wl
          · have hd : decide ((0 : Int) < (wl : Int)) = true := decide_eq_true (by omega)
            have hw0' := Lib.hid hw0
            clear hw0
            gi_wp2
            refine hclose'.out _ ?_ ?_
            · rw [hfs'.out, if_pos hw0'.out]
              exact B9'.out.setLink (f : Int) hn3
            · exact (hM9'.out.trans (Mods.setCell (S := fun k => k = w.heap.size + 1) _ ⟨w.heap.size + 1, n * 4 + 2, none⟩ (.int .i64 (f : Int)) rfl) (fun _ _ h => h)).drew
          · have hd : decide ((0 : Int) < (wl : Int)) = false := decide_eq_false (by omega)
            have hw0' := Lib.hid hw0
            clear hw0
            gi_wp2
            refine hclose'.out _ ?_ ?_
            · rw [hfs'.out, if_neg hw0'.out]
              exact B9'.out
            · exact hM9'.out.drew
        · have hz1 : ((u : Int) != 0) = true := by simpa using hz
          have hz2 : ((u : Int) == 0) = false := by simpa using hz
          have hzz := Lib.hid hz
          clear hz
          gi_wp2_with (refine ⟨trivial, ?_⟩; gi_at_call 83; refine (CallsIn.inRound l (callsIn_wide.2 (path_calls bt T col n _ hTW.out ok'.out hx1))).mono ?_; rintro e w1 ⟨A1, c1, rfl, ho1, hb1⟩; rw [hpl'.out] at ho1 ⊢; have hN1 := Lib.hid (hnew'.out.next hb1); obtain ⟨n1, n2, n3⟩ := hN1.out.cells; have B1 := Lib.hid (hb2'.out.move (hb1.block _ hb2'.out.lt)); have k1 := (B1.out.cells hnS).2.1; have r1 := B1.out.frozen (n * 4 + 1); have ho1' := Lib.hid ho1; have hb1' := Lib.hid hb1; clear ho1 hb1)
          obtain ⟨w8, hw8⟩ : ∃ w8, w1.setCell ⟨w.heap.size + 1, n * 4 + 1, none⟩ (.int .i64 0) = w8 := ⟨_, rfl⟩
          have hN8 := Lib.hid (hN1.out.store (n * 4 + 1) (.int .i64 0))
          have hM8 : Hid (Mods (fun k => k = w.heap.size + 1) W w8) := Lib.hid (hw8 ▸ (Mods.of_below (S := fun k => k = w.heap.size + 1) hb1'.out).trans (Mods.setCell (S := fun k => k = w.heap.size + 1) w1 ⟨w.heap.size + 1, n * 4 + 1, none⟩ (.int .i64 0) rfl) (fun _ _ h => h))
          have B8 : Hid (StBlock w8 (w.heap.size + 1) (S.fall1 (n, (u : Int))) kv2 wv2) := Lib.hid (hw8 ▸ B1.out.setFall 0 hnS)
          have ho8 := Lib.hid (ho1'.out.move (w1 := w8) (fun k hk hS => by rw [← hw8]; exact Below.heap_setCell _ _ _ _ (by simp only; omega)))
          rw [hw8] at hN8 ⊢
          have hAt := Lib.hid (AutoAt.of_block (c := T.nodes.length) (ba := w.heap.size + 1 + 1) (by rw [hN8.out.cells.2.1]; simp [Auto.fall1, hSl'.out]) (by simp [Auto.fall1, hSl'.out]) (by omega) B8.out (hrow8'.out w8 hM8.out))
          clear hw8 n1 n2 n3 k1 r1
          obtain ⟨n1, n2, n3⟩ := hN8.out.cells
          have hnL : n < (S.fall1 (n, (u : Int))).length := by unfold Auto.fall1; simpa using hnS
          have huL : u < (S.fall1 (n, (u : Int))).length := by unfold Auto.fall1; rw [List.length_modify, hSl'.out]; exact huT
          have c1 := (B8.out.cells huL).2.1
          rw [s1u'.out, hfu'.out] at c1
          have c2 := (B8.out.cells hnL).2.1
          obtain ⟨gp, cp, hvp, hgp1, hgp2, hcp1, hcp2, hcp3⟩ := ho8.out.form (by omega)
          injection hvp with hA1 _ hc1
          subst hA1; subst hc1
          have c3 : w8.cell? ⟨gp, pl, none⟩ = some (.int .u64 pn) := by
            rw [(hcp3 pl (by omega)).1]
            simp [intCells, hlast'.out]
          have hu0 : (0 : Int) ≤ (u : Int) := by omega
          have hu1 : (u : Int) < (T.nodes.length : Int) := by omega
          have hpw2 : Hid (wrap64 (pl : Int) = (pl : Int)) := Lib.hid (IntWalk.wrap64_in _ ⟨by omega, by omega⟩)
          have hp0 : (0 : Int) ≤ (pl : Int) := by omega
          have hp1 : (pl : Int) < (pl : Int) + 1 := by omega
          clear hcp3
          gi_wp2
          have hpw := hpw2.out
          refine startR_ (n := 20) (S := fun w' => w'.cell? ⟨w.heap.size + 1 + 1 + 1, 0, none⟩ = some (.pointer (some ⟨w.heap.size + 1 + 1, 0, none⟩)) ∧ w'.cell? ⟨w.heap.size + 1 + 1, 0, none⟩ = some (.slice (some ⟨w.heap.size + 1, 0, none⟩) T.nodes.length T.nodes.length) ∧ w'.cell? ⟨w.heap.size + 1, u * 4 + 1, none⟩ = some (.int .i64 fu) ∧ w'.cell? ⟨gp, pl, none⟩ = some (.int .u64 pn)) (ds := [19]) #[false, false, false, false, false, false, false, false, false, false, false, false, false, false, false, false, false, false, false, false] (by kernel_rfl) (by kernel_rfl) rfl rfl ⟨n3, n2, c1, c3⟩ (fun hHeld => ?_); refine with_tabW new20_tab new20_bits (fun HT_ HW_ => ?_)
          refine pure_ (i := 0) (N := some 86) (v := ?_) (a' := ?_) #[true, false, false, false, false, false, false, false, false, false, false, false, false, false, false, false, false, false, false, false] rfl rfl (any_of HT_.out (by kernel_rfl)) (fun _ _ _ h => (h.2.1 _ rfl).elim) (Or.inl ⟨by rfl, ?_⟩) ?_ ?_
          rotate_left
          · intro w'
            go_simp
            with_reducible rfl
          rotate_left
          · simp only [Act.put, List.setIfInBounds_toArray, List.set_cons_zero, List.set_cons_succ, i64_w, i32_w]
            rfl
          refine pure_ (i := 6) (N := some 92) (v := ?_) (a' := ?_) #[true, false, false, false, false, false, true, false, false, false, false, false, false, false, false, false, false, false, false, false] rfl rfl (any_of HT_.out (by kernel_rfl)) (fun _ _ _ h => (h.2.1 _ rfl).elim) (Or.inl ⟨by rfl, ?_⟩) ?_ ?_
          rotate_left
          · intro w'
            go_simp
            with_reducible rfl
          rotate_left
          · simp only [Act.put, List.setIfInBounds_toArray, List.set_cons_zero, List.set_cons_succ, i64_w, i32_w]
            rfl
          refine pure_ (i := 10) (N := some 96) (v := ?_) (a' := ?_) #[true, false, false, false, false, false, true, false, false, false, true, false, false, false, false, false, false, false, false, false] rfl rfl (any_of HT_.out (by kernel_rfl)) (fun _ _ _ h => (h.2.1 _ rfl).elim) (Or.inl ⟨by rfl, ?_⟩) ?_ ?_
          rotate_left
          · intro w'
            go_simp
            with_reducible rfl
          rotate_left
          · simp only [Act.put, List.setIfInBounds_toArray, List.set_cons_zero, List.set_cons_succ, i64_w, i32_w]
            rfl
          refine pure_ (i := 11) (N := some 97) (v := ?_) (a' := ?_) #[true, false, false, false, false, false, true, false, false, false, true, true, false, false, false, false, false, false, false, false] rfl rfl (any_of HT_.out (by kernel_rfl)) (fun _ _ _ h => (h.2.1 _ rfl).elim) (Or.inl ⟨by rfl, ?_⟩) ?_ ?_
          rotate_left
          · intro w'
            go_simp
            with_reducible rfl
          rotate_left
          · simp only [Act.put, List.setIfInBounds_toArray, List.set_cons_zero, List.set_cons_succ, i64_w, i32_w]
            rfl
          refine pure_ (i := 12) (N := some 98) (v := ?_) (a' := ?_) #[true, false, false, false, false, false, true, false, false, false, true, true, true, false, false, false, false, false, false, false] rfl rfl (any_of HT_.out (by kernel_rfl)) (fun _ _ _ h => (h.2.1 _ rfl).elim) (Or.inl ⟨by rfl, ?_⟩) ?_ ?_
          rotate_left
          · intro w'
            go_simp
            with_reducible rfl
          rotate_left
          · simp only [Act.put, List.setIfInBounds_toArray, List.set_cons_zero, List.set_cons_succ, i64_w, i32_w]
            rfl
          refine pure_ (i := 13) (N := some 99) (v := ?_) (a' := ?_) #[true, false, false, false, false, false, true, false, false, false, true, true, true, true, false, false, false, false, false, false] rfl rfl (any_of HT_.out (by kernel_rfl)) (fun _ _ _ h => (h.2.1 _ rfl).elim) (Or.inl ⟨by rfl, ?_⟩) ?_ ?_
          rotate_left
          · intro w'
            go_simp
            with_reducible rfl
          rotate_left
          · simp only [Act.put, List.setIfInBounds_toArray, List.set_cons_zero, List.set_cons_succ, i64_w, i32_w]
            rfl
          refine pure_ (i := 14) (N := some 100) (v := ?_) (a' := ?_) #[true, false, false, false, false, false, true, false, false, false, true, true, true, true, true, false, false, false, false, false] rfl rfl (any_of HT_.out (by kernel_rfl)) (fun _ _ _ h => (h.2.1 _ rfl).elim) (Or.inl ⟨by rfl, ?_⟩) ?_ ?_
          rotate_left
          · intro w'
            go_simp
            with_reducible rfl
          rotate_left
          · simp only [Act.put, List.setIfInBounds_toArray, List.set_cons_zero, List.set_cons_succ, i64_w, i32_w]
            rfl
          refine take_ (i := 1) (N := some 87) (v := ?_) (a' := ?_) #[true, true, false, false, false, false, true, false, false, false, true, true, true, true, true, false, false, false, false, false] rfl rfl (take_ofW HT_.out HW_.out (by kernel_rfl)) (fun _ _ _ h => (h.2.1 _ rfl).elim) (Or.inl ⟨by rfl, ?_⟩) hHeld ?_ ?_
          rotate_left
          · rintro w' ⟨s0, s1, s2, s3⟩
            go_simp
            with_reducible rfl
          rotate_left
          · simp only [Act.put, List.setIfInBounds_toArray, List.set_cons_zero, List.set_cons_succ, i64_w, i32_w]
            rfl
          refine take_ (i := 2) (N := some 88) (v := ?_) (a' := ?_) #[true, true, true, false, false, false, true, false, false, false, true, true, true, true, true, false, false, false, false, false] rfl rfl (take_ofW HT_.out HW_.out (by kernel_rfl)) (fun _ _ _ h => (h.2.1 _ rfl).elim) (Or.inl ⟨by rfl, ?_⟩) hHeld ?_ ?_
          rotate_left
          · rintro w' ⟨s0, s1, s2, s3⟩
            go_simp
            with_reducible rfl
          rotate_left
          · simp only [Act.put, List.setIfInBounds_toArray, List.set_cons_zero, List.set_cons_succ, i64_w, i32_w]
            rfl
          refine pure_ (i := 3) (N := some 89) (v := ?_) (a' := ?_) #[true, true, true, true, false, false, true, false, false, false, true, true, true, true, true, false, false, false, false, false] rfl rfl (any_of HT_.out (by kernel_rfl)) (fun _ _ _ h => (h.2.1 _ rfl).elim) (Or.inl ⟨by rfl, ?_⟩) ?_ ?_
          rotate_left
          · intro w'
            go_simp
            with_reducible rfl
          rotate_left
          · simp only [Act.put, List.setIfInBounds_toArray, List.set_cons_zero, List.set_cons_succ, i64_w, i32_w]
            rfl
          refine pure_ (i := 4) (N := some 90) (v := ?_) (a' := ?_) #[true, true, true, true, true, false, true, false, false, false, true, true, true, true, true, false, false, false, false, false] rfl rfl (any_of HT_.out (by kernel_rfl)) (fun _ _ _ h => (h.2.1 _ rfl).elim) (Or.inl ⟨by rfl, ?_⟩) ?_ ?_
          rotate_left
          · intro w'
            go_simp
            with_reducible rfl
          rotate_left
          · simp only [Act.put, List.setIfInBounds_toArray, List.set_cons_zero, List.set_cons_succ, i64_w, i32_w]
            rfl
          refine take_ (i := 5) (N := some 91) (v := ?_) (a' := ?_) #[true, true, true, true, true, true, true, false, false, false, true, true, true, true, true, false, false, false, false, false] rfl rfl (take_ofW HT_.out HW_.out (by kernel_rfl)) (fun _ _ _ h => (h.2.1 _ rfl).elim) (Or.inl ⟨by rfl, ?_⟩) hHeld ?_ ?_
          rotate_left
          · rintro w' ⟨s0, s1, s2, s3⟩
            go_simp
            with_reducible rfl
          rotate_left
          · simp only [Act.put, List.setIfInBounds_toArray, List.set_cons_zero, List.set_cons_succ, i64_w, i32_w]
            rfl
          refine pure_ (i := 7) (N := some 93) (v := ?_) (a' := ?_) #[true, true, true, true, true, true, true, true, false, false, true, true, true, true, true, false, false, false, false, false] rfl rfl (any_of HT_.out (by kernel_rfl)) (fun _ _ _ h => (h.2.1 _ rfl).elim) (Or.inl ⟨by rfl, ?_⟩) ?_ ?_
          rotate_left
          · intro w'
            go_simp
            with_reducible rfl
          rotate_left
          · simp only [Act.put, List.setIfInBounds_toArray, List.set_cons_zero, List.set_cons_succ, i64_w, i32_w]
            rfl
          refine pure_ (i := 8) (N := some 94) (v := ?_) (a' := ?_) #[true, true, true, true, true, true, true, true, true, false, true, true, true, true, true, false, false, false, false, false] rfl rfl (any_of HT_.out (by kernel_rfl)) (fun _ _ _ h => (h.2.1 _ rfl).elim) (Or.inl ⟨by rfl, ?_⟩) ?_ ?_
          rotate_left
          · intro w'
            go_simp
            with_reducible rfl
          rotate_left
          · simp only [Act.put, List.setIfInBounds_toArray, List.set_cons_zero, List.set_cons_succ, i64_w, i32_w]
            rfl
          refine take_ (i := 9) (N := some 95) (v := ?_) (a' := ?_) #[true, true, true, true, true, true, true, true, true, true, true, true, true, true, true, false, false, false, false, false] rfl rfl (take_ofW HT_.out HW_.out (by kernel_rfl)) (fun _ _ _ h => (h.2.1 _ rfl).elim) (Or.inl ⟨by rfl, ?_⟩) hHeld ?_ ?_
          rotate_left
          · rintro w' ⟨s0, s1, s2, s3⟩
            go_simp
            with_reducible rfl
          rotate_left
          · simp only [Act.put, List.setIfInBounds_toArray, List.set_cons_zero, List.set_cons_succ, i64_w, i32_w]
            rfl
          refine take_ (i := 15) (N := some 101) (v := ?_) (a' := ?_) #[true, true, true, true, true, true, true, true, true, true, true, true, true, true, true, true, false, false, false, false] rfl rfl (take_ofW HT_.out HW_.out (by kernel_rfl)) (fun _ _ _ h => (h.2.1 _ rfl).elim) (Or.inl ⟨by rfl, ?_⟩) hHeld ?_ ?_
          rotate_left
          · rintro w' ⟨s0, s1, s2, s3⟩
            go_simp
            with_reducible rfl
          rotate_left
          · simp only [Act.put, List.setIfInBounds_toArray, List.set_cons_zero, List.set_cons_succ, i64_w, i32_w]
            rfl
          refine one_ (i := 16) (N := some 102) #[true, true, true, true, true, true, true, true, true, true, true, true, true, true, true, true, true, false, false, false] rfl rfl (one_of HT_.out (by kernel_rfl)) (by decide) (fun K hK => ?_)
          refine goes_ Try.func55 (by kernel_rfl) rfl #[.pointer (some ⟨w.heap.size + 1 + 1, 0, none⟩), .int .i64 fu, .int .u64 pn] (by rfl) rfl rfl (by (try simp only [List.map_toArray, List.map_cons, List.map_nil]); first | done | rfl) ?_
          refine (autoNext_calls (w.heap.size + 1 + 1) (w.heap.size + 1) (S.fall1 (n, (u : Int))) fu pn _ (hAt.out.below ((Below.refl _ _).drew)) ok1'.out).mono ?_
          rintro e w7 ⟨rfl, hb7⟩
          rw [hnx'.out hzz.out]
          refine ⟨_, rfl, ?_⟩
          have hb7x : Below w8.heap.size w8 w7 := ((Below.refl _ _).drew).trans hb7
          refine hK.out _ _ ⟨(hb7x.cell (p := ⟨w.heap.size + 1 + 1 + 1, 0, none⟩) (World.block_lt_of_cell? w8 _ n3)).trans n3, (hb7x.cell (p := ⟨w.heap.size + 1 + 1, 0, none⟩) (World.block_lt_of_cell? w8 _ n2)).trans n2, (hb7x.cell (p := ⟨w.heap.size + 1, u * 4 + 1, none⟩) (World.block_lt_of_cell? w8 _ c1)).trans c1, (hb7x.cell (p := ⟨gp, pl, none⟩) (World.block_lt_of_cell? w8 _ c3)).trans c3⟩ (fun hHeld => ?_)
          clear hK K
          refine norm_ (a' := ?_) ?_ ?_
          rotate_left
          · show Act.put _ (some 102) _ = _
            simp only [Act.put, List.setIfInBounds_toArray, List.set_cons_zero, List.set_cons_succ, i64_w, i32_w]
            rfl
          refine pure_ (i := 17) (N := some 103) (v := ?_) (a' := ?_) #[true, true, true, true, true, true, true, true, true, true, true, true, true, true, true, true, true, true, false, false] rfl rfl (any_of HT_.out (by kernel_rfl)) (fun _ _ _ h => (h.2.1 _ rfl).elim) (Or.inl ⟨by rfl, ?_⟩) ?_ ?_
          rotate_left
          · intro w'
            go_simp
            with_reducible rfl
          rotate_left
          · simp only [Act.put, List.setIfInBounds_toArray, List.set_cons_zero, List.set_cons_succ, i64_w, i32_w]
            rfl
          refine pure_ (i := 18) (N := some 104) (v := ?_) (a' := ?_) #[true, true, true, true, true, true, true, true, true, true, true, true, true, true, true, true, true, true, true, false] rfl rfl (any_of HT_.out (by kernel_rfl)) (fun _ _ _ h => (h.2.1 _ rfl).elim) (Or.inl ⟨by rfl, ?_⟩) ?_ ?_
          rotate_left
          · intro w'
            go_simp
            with_reducible rfl
          rotate_left
          · simp only [Act.put, List.setIfInBounds_toArray, List.set_cons_zero, List.set_cons_succ, i64_w, i32_w]
            rfl
          refine last_ (i := 19) (N := none) #[true, true, true, true, true, true, true, true, true, true, true, true, true, true, true, true, true, true, true, true] rfl rfl (one_of HT_.out (by kernel_rfl)) (by decide) (fun K hK => ?_)
          have B7 := Lib.hid (B8.out.move (hb7x.block _ B8.out.lt))
          have z7 := (B7.out.cells hnL).2.1
          have f7 := B7.out.frozen (n * 4 + 1)
          have hb7' := Lib.hid hb7x
          refine skip_ (w1 := ?_) (by rfl) rfl ?_ ?_
          rotate_left
          · go_simp
            rfl
          refine hK.out _ _ ?_
          clear hK K
          refine done_ (done_of HT_.out (by kernel_rfl)) ?_
          refine ⟨(fun h => by cases h), (fun _ h => by cases h), ?_⟩
          clear hpw hp0 hp1 hpw2 hHeld z7 f7 n1 n2 n3 c1 c2 c3
          have hN8b := Lib.hid ((hN8.out.next hb7'.out).store (n * 4 + 1) (.int .i64 (f : Int)))
          have hM8b := Lib.hid ((hM8.out.trans (Mods.of_below (S := fun k => k = w.heap.size + 1) hb7'.out) (fun _ _ h => h)).trans (Mods.setCell (S := fun k => k = w.heap.size + 1) w7 ⟨w.heap.size + 1, n * 4 + 1, none⟩ (.int .i64 (f : Int)) rfl) (fun _ _ h => h))
          have B8b := Lib.hid (B7.out.setFall (f : Int) hnL)
          obtain ⟨S2, hS2e⟩ : ∃ S2, S2 = Auto.fall2 T (S.fall1 (n, (u : Int))) (n, (u : Int)) := ⟨_, rfl⟩
          have hS2e' := Lib.hid hS2e
          have hfe : Hid ((S.fall1 (n, (u : Int))).modify n (fun s => { s with fall := (f : Int) }) = S2) := Lib.hid (by rw [hS2e, hS2'.out hzz.out])
          rw [hfe.out] at B8b
          clear hS2e hfe hM8 hN8 B8
          generalize w7.setCell ⟨w.heap.size + 1, n * 4 + 1, none⟩ (.int .i64 (f : Int)) = wy at hN8b hM8b B8b ⊢
          obtain ⟨lk, hlk⟩ : ∃ lk, (S.st f).link = lk := ⟨_, rfl⟩
          have hlk' := Lib.hid hlk
          have hf0 : (0 : Int) ≤ (f : Int) := by omega
          have hf1 : (f : Int) < (T.nodes.length : Int) := by omega
          have hS2l : Hid (S2.length = T.nodes.length) := Lib.hid (by rw [hS2e'.out]; unfold Auto.fall2 Auto.fall1; split <;> simp [hSl'.out])
          have hst2 : Hid (∀ i, S2.st i = if i = n then { S.st n with fall := (f : Int) } else S.st i) := Lib.hid (by rw [hS2e'.out]; exact f4'.out)
          have hn2 : n < S2.length := by rw [hS2l.out]; exact hx1
          have hf2 : f < S2.length := by rw [hS2l.out]; exact hfT
          have c1 := (B8b.out.cells hn2).2.1
          have c2 := (B8b.out.cells hf2).2.2.1
          have c3 := (B8b.out.cells hf2).2.2.2
          have c4 := (B8b.out.cells hn2).2.2.1
          have q2 := B8b.out.frozen (n * 4 + 2)
          rw [hst2.out, if_pos rfl] at c1
          rw [hst2.out, if_neg hfn'.out, hlk] at c2
          simp only at c1
          obtain ⟨n1, n2, n3⟩ := hN8b.out.cells
          clear hlk
          gi_wp2
          refine startR_ (n := 15) (S := fun w' => w'.cell? ⟨w.heap.size + 1 + 1 + 1, 0, none⟩ = some (.pointer (some ⟨w.heap.size + 1 + 1, 0, none⟩)) ∧ w'.cell? ⟨w.heap.size + 1 + 1, 0, none⟩ = some (.slice (some ⟨w.heap.size + 1, 0, none⟩) T.nodes.length T.nodes.length) ∧ w'.cell? ⟨w.heap.size + 1, n * 4 + 1, none⟩ = some (.int .i64 (f : Int)) ∧ w'.cell? ⟨w.heap.size + 1, f * 4 + 2, none⟩ = some (.int .i64 lk)) (ds := [14]) #[false, false, false, false, false, false, false, false, false, false, false, false, false, false, false] (by kernel_rfl) (by kernel_rfl) rfl rfl ⟨n3, n2, c1, c2⟩ (fun hHeld => ?_); refine with_tabW new21_tab new21_bits (fun HT_ HW_ => ?_)
          refine pure_ (i := 0) (N := some 105) (v := ?_) (a' := ?_) #[true, false, false, false, false, false, false, false, false, false, false, false, false, false, false] rfl rfl (any_of HT_.out (by kernel_rfl)) (fun _ _ _ h => (h.2.1 _ rfl).elim) (Or.inl ⟨by rfl, ?_⟩) ?_ ?_
          rotate_left
          · intro w'
            go_simp
            with_reducible rfl
          rotate_left
          · simp only [Act.put, List.setIfInBounds_toArray, List.set_cons_zero, List.set_cons_succ, i64_w, i32_w]
            rfl
          refine pure_ (i := 5) (N := some 110) (v := ?_) (a' := ?_) #[true, false, false, false, false, true, false, false, false, false, false, false, false, false, false] rfl rfl (any_of HT_.out (by kernel_rfl)) (fun _ _ _ h => (h.2.1 _ rfl).elim) (Or.inl ⟨by rfl, ?_⟩) ?_ ?_
          rotate_left
          · intro w'
            go_simp
            with_reducible rfl
          rotate_left
          · simp only [Act.put, List.setIfInBounds_toArray, List.set_cons_zero, List.set_cons_succ, i64_w, i32_w]
            rfl
          refine pure_ (i := 6) (N := some 111) (v := ?_) (a' := ?_) #[true, false, false, false, false, true, true, false, false, false, false, false, false, false, false] rfl rfl (any_of HT_.out (by kernel_rfl)) (fun _ _ _ h => (h.2.1 _ rfl).elim) (Or.inl ⟨by rfl, ?_⟩) ?_ ?_
          rotate_left
          · intro w'
            go_simp
            with_reducible rfl
          rotate_left
          · simp only [Act.put, List.setIfInBounds_toArray, List.set_cons_zero, List.set_cons_succ, i64_w, i32_w]
            rfl
          refine pure_ (i := 7) (N := some 112) (v := ?_) (a' := ?_) #[true, false, false, false, false, true, true, true, false, false, false, false, false, false, false] rfl rfl (any_of HT_.out (by kernel_rfl)) (fun _ _ _ h => (h.2.1 _ rfl).elim) (Or.inl ⟨by rfl, ?_⟩) ?_ ?_
          rotate_left
          · intro w'
            go_simp
            with_reducible rfl
          rotate_left
          · simp only [Act.put, List.setIfInBounds_toArray, List.set_cons_zero, List.set_cons_succ, i64_w, i32_w]
            rfl
          refine take_ (i := 1) (N := some 106) (v := ?_) (a' := ?_) #[true, true, false, false, false, true, true, true, false, false, false, false, false, false, false] rfl rfl (take_ofW HT_.out HW_.out (by kernel_rfl)) (fun _ _ _ h => (h.2.1 _ rfl).elim) (Or.inl ⟨by rfl, ?_⟩) hHeld ?_ ?_
          rotate_left
          · rintro w' ⟨s0, s1, s2, s3⟩
            go_simp
            with_reducible rfl
          rotate_left
          · simp only [Act.put, List.setIfInBounds_toArray, List.set_cons_zero, List.set_cons_succ, i64_w, i32_w]
            rfl
          refine pure_ (i := 2) (N := some 107) (v := ?_) (a' := ?_) #[true, true, true, false, false, true, true, true, false, false, false, false, false, false, false] rfl rfl (any_of HT_.out (by kernel_rfl)) (fun _ _ _ h => (h.2.1 _ rfl).elim) (Or.inl ⟨by rfl, ?_⟩) ?_ ?_
          rotate_left
          · intro w'
            go_simp
            with_reducible rfl
          rotate_left
          · simp only [Act.put, List.setIfInBounds_toArray, List.set_cons_zero, List.set_cons_succ, i64_w, i32_w]
            rfl
          refine pure_ (i := 3) (N := some 108) (v := ?_) (a' := ?_) #[true, true, true, true, false, true, true, true, false, false, false, false, false, false, false] rfl rfl (any_of HT_.out (by kernel_rfl)) (fun _ _ _ h => (h.2.1 _ rfl).elim) (Or.inl ⟨by rfl, ?_⟩) ?_ ?_
          rotate_left
          · intro w'
            go_simp
            with_reducible rfl
          rotate_left
          · simp only [Act.put, List.setIfInBounds_toArray, List.set_cons_zero, List.set_cons_succ, i64_w, i32_w]
            rfl
          refine take_ (i := 4) (N := some 109) (v := ?_) (a' := ?_) #[true, true, true, true, true, true, true, true, false, false, false, false, false, false, false] rfl rfl (take_ofW HT_.out HW_.out (by kernel_rfl)) (fun _ _ _ h => (h.2.1 _ rfl).elim) (Or.inl ⟨by rfl, ?_⟩) hHeld ?_ ?_
          rotate_left
          · rintro w' ⟨s0, s1, s2, s3⟩
            go_simp
            with_reducible rfl
          rotate_left
          · simp only [Act.put, List.setIfInBounds_toArray, List.set_cons_zero, List.set_cons_succ, i64_w, i32_w]
            rfl
          refine take_ (i := 8) (N := some 113) (v := ?_) (a' := ?_) #[true, true, true, true, true, true, true, true, true, false, false, false, false, false, false] rfl rfl (take_ofW HT_.out HW_.out (by kernel_rfl)) (fun _ _ _ h => (h.2.1 _ rfl).elim) (Or.inl ⟨by rfl, ?_⟩) hHeld ?_ ?_
          rotate_left
          · rintro w' ⟨s0, s1, s2, s3⟩
            go_simp
            with_reducible rfl
          rotate_left
          · simp only [Act.put, List.setIfInBounds_toArray, List.set_cons_zero, List.set_cons_succ, i64_w, i32_w]
            rfl
          refine pure_ (i := 9) (N := some 114) (v := ?_) (a' := ?_) #[true, true, true, true, true, true, true, true, true, true, false, false, false, false, false] rfl rfl (any_of HT_.out (by kernel_rfl)) (fun _ _ _ h => (h.2.1 _ rfl).elim) (Or.inl ⟨by rfl, ?_⟩) ?_ ?_
          rotate_left
          · intro w'
            go_simp
            with_reducible rfl
          rotate_left
          · simp only [Act.put, List.setIfInBounds_toArray, List.set_cons_zero, List.set_cons_succ, i64_w, i32_w]
            rfl
          refine pure_ (i := 10) (N := some 115) (v := ?_) (a' := ?_) #[true, true, true, true, true, true, true, true, true, true, true, false, false, false, false] rfl rfl (any_of HT_.out (by kernel_rfl)) (fun _ _ _ h => (h.2.1 _ rfl).elim) (Or.inl ⟨by rfl, ?_⟩) ?_ ?_
          rotate_left
          · intro w'
            go_simp
            with_reducible rfl
          rotate_left
          · simp only [Act.put, List.setIfInBounds_toArray, List.set_cons_zero, List.set_cons_succ, i64_w, i32_w]
            rfl
          refine take_ (i := 11) (N := some 116) (v := ?_) (a' := ?_) #[true, true, true, true, true, true, true, true, true, true, true, true, false, false, false] rfl rfl (take_ofW HT_.out HW_.out (by kernel_rfl)) (fun _ _ _ h => (h.2.1 _ rfl).elim) (Or.inl ⟨by rfl, ?_⟩) hHeld ?_ ?_
          rotate_left
          · rintro w' ⟨s0, s1, s2, s3⟩
            go_simp
            with_reducible rfl
          rotate_left
          · simp only [Act.put, List.setIfInBounds_toArray, List.set_cons_zero, List.set_cons_succ, i64_w, i32_w]
            rfl
          refine pure_ (i := 12) (N := some 117) (v := ?_) (a' := ?_) #[true, true, true, true, true, true, true, true, true, true, true, true, true, false, false] rfl rfl (any_of HT_.out (by kernel_rfl)) (fun _ _ _ h => (h.2.1 _ rfl).elim) (Or.inl ⟨by rfl, ?_⟩) ?_ ?_
          rotate_left
          · intro w'
            go_simp
            with_reducible rfl
          rotate_left
          · simp only [Act.put, List.setIfInBounds_toArray, List.set_cons_zero, List.set_cons_succ, i64_w, i32_w]
            rfl
          refine pure_ (i := 13) (N := some 118) (v := ?_) (a' := ?_) #[true, true, true, true, true, true, true, true, true, true, true, true, true, true, false] rfl rfl (any_of HT_.out (by kernel_rfl)) (fun _ _ _ h => (h.2.1 _ rfl).elim) (Or.inl ⟨by rfl, ?_⟩) ?_ ?_
          rotate_left
          · intro w'
            go_simp
            with_reducible rfl
          rotate_left
          · simp only [Act.put, List.setIfInBounds_toArray, List.set_cons_zero, List.set_cons_succ, i64_w, i32_w]
            rfl
          refine last_ (i := 14) (N := none) #[true, true, true, true, true, true, true, true, true, true, true, true, true, true, true] rfl rfl (one_of HT_.out (by kernel_rfl)) (by decide) (fun K hK => ?_)
          refine skip_ (w1 := ?_) (by rfl) rfl ?_ ?_
          rotate_left
          · go_simp
            rfl
          refine hK.out _ _ ?_
          clear hK K
          refine done_ (done_of HT_.out (by kernel_rfl)) ?_
          refine ⟨(fun h => by cases h), (fun _ h => by cases h), ?_⟩
          obtain ⟨w9, hw9⟩ : ∃ w9, (wy.setCell ⟨w.heap.size + 1, n * 4 + 2, none⟩ (.int .i64 lk)).drew = w9 := ⟨_, rfl⟩
          have hN9 : NewAt w bt T.nodes.length w9 := by rw [← hw9]; exact (hN8b.out.store (n * 4 + 2) (.int .i64 lk)).mods (Mods.refl _ _).drew
          have hM9 : Mods (fun k => k = w.heap.size + 1) W w9 := by rw [← hw9]; exact (hM8b.out.trans (Mods.setCell (S := fun k => k = w.heap.size + 1) wy ⟨w.heap.size + 1, n * 4 + 2, none⟩ (.int .i64 lk) rfl) (fun _ _ h => h)).drew
          have hS3 : S2.modify n (fun s => { s with link := lk }) = S2.fall3 (n, (u : Int)) := by
            unfold Auto.fall3
            simp only
            rw [hst2.out n, if_pos rfl]
            simp only [Int.toNat_natCast]
            rw [hst2.out f, if_neg hfn'.out, hlk'.out]
          have B9 : StBlock w9 (w.heap.size + 1) (S2.fall3 (n, (u : Int))) kv2 wv2 := by rw [← hS3, ← hw9]; exact B8b.out.setLink lk hn2
          obtain ⟨wl, hwl⟩ : ∃ wl, (T.nw f).length = wl := ⟨_, rfl⟩
          have hwle : wl ≤ 1048576 := by have := ok'.out.nw f hfT; omega
          have hwvf : ∃ Aw cw, wv2 f = .slice Aw wl cw := by
            have h1 := (hr2'.out f (by rw [hSl'.out]; exact hfT)).2
            rw [(hh'.out.same f hfT).2, hwl] at h1
            rcases h1 with ⟨h2, h3⟩ | ⟨b, off, c, h2, _⟩
            · exact ⟨none, 0, by rw [h2, h3]⟩
            · exact ⟨_, c, h2⟩
          obtain ⟨Aw, cw, hwvf⟩ := hwvf
          have hn3 : n < (S2.fall3 (n, (u : Int))).length := by unfold Auto.fall3; simpa using hn2
          have hf3 : f < (S2.fall3 (n, (u : Int))).length := by unfold Auto.fall3; simpa using hf2
          have s3n : ((S2.fall3 (n, (u : Int))).st n).fall = f := by rw [← hS3, Auto.st_modify, if_pos ⟨rfl, hn2⟩]; simp only; rw [hst2.out, if_pos rfl]
          have s3w : ((S2.fall3 (n, (u : Int))).st f).words = T.nw f := by rw [← hS3, Auto.st_modify, if_neg (fun h => hfn'.out h.1), hst2.out, if_neg hfn'.out]; exact (hh'.out.same f hfT).2
          have s3n' := Lib.hid s3n
          have s3w' := Lib.hid s3w
          have c1 := (B9.cells hn3).2.1
          have c3 := (B9.cells hf3).2.2.2
          rw [s3n] at c1
          rw [hwvf] at c3
          have c4 := (B9.cells hn3).2.2.1
          have q2 := B9.frozen (n * 4 + 2)
          have hN9' := Lib.hid hN9
          have hM9' := Lib.hid hM9
          have B9' := Lib.hid B9
          have hwl' := Lib.hid hwl
          obtain ⟨n1, n2, n3⟩ := hN9.cells
          rw [hw9]
          clear hHeld hw9 hS3 hN9 hM9 B9 hwl hwvf s3n s3w
          gi_wp2
          refine startR_ (n := 13) (S := fun w' => w'.cell? ⟨w.heap.size + 1 + 1 + 1, 0, none⟩ = some (.pointer (some ⟨w.heap.size + 1 + 1, 0, none⟩)) ∧ w'.cell? ⟨w.heap.size + 1 + 1, 0, none⟩ = some (.slice (some ⟨w.heap.size + 1, 0, none⟩) T.nodes.length T.nodes.length) ∧ w'.cell? ⟨w.heap.size + 1, n * 4 + 1, none⟩ = some (.int .i64 (f : Int)) ∧ w'.cell? ⟨w.heap.size + 1, f * 4 + 3, none⟩ = some (.slice Aw wl cw)) (ds := []) #[false, false, false, false, false, false, false, false, false, false, false, false, false] (by kernel_rfl) (by kernel_rfl) rfl rfl ⟨n3, n2, c1, c3⟩ (fun hHeld => ?_); refine with_tabW new22_tab new22_bits (fun HT_ HW_ => ?_)
          refine pure_ (i := 4) (N := some 123) (v := ?_) (a' := ?_) #[false, false, false, false, true, false, false, false, false, false, false, false, false] rfl rfl (any_of HT_.out (by kernel_rfl)) (fun _ _ _ h => (h.2.1 _ rfl).elim) (Or.inl ⟨by rfl, ?_⟩) ?_ ?_
          rotate_left
          · intro w'
            go_simp
            with_reducible rfl
          rotate_left
          · simp only [Act.put, List.setIfInBounds_toArray, List.set_cons_zero, List.set_cons_succ, i64_w, i32_w]
            rfl
          refine pure_ (i := 5) (N := some 124) (v := ?_) (a' := ?_) #[false, false, false, false, true, true, false, false, false, false, false, false, false] rfl rfl (any_of HT_.out (by kernel_rfl)) (fun _ _ _ h => (h.2.1 _ rfl).elim) (Or.inl ⟨by rfl, ?_⟩) ?_ ?_
          rotate_left
          · intro w'
            go_simp
            with_reducible rfl
          rotate_left
          · simp only [Act.put, List.setIfInBounds_toArray, List.set_cons_zero, List.set_cons_succ, i64_w, i32_w]
            rfl
          refine pure_ (i := 6) (N := some 125) (v := ?_) (a' := ?_) #[false, false, false, false, true, true, true, false, false, false, false, false, false] rfl rfl (any_of HT_.out (by kernel_rfl)) (fun _ _ _ h => (h.2.1 _ rfl).elim) (Or.inl ⟨by rfl, ?_⟩) ?_ ?_
          rotate_left
          · intro w'
            go_simp
            with_reducible rfl
          rotate_left
          · simp only [Act.put, List.setIfInBounds_toArray, List.set_cons_zero, List.set_cons_succ, i64_w, i32_w]
            rfl
          refine take_ (i := 0) (N := some 119) (v := ?_) (a' := ?_) #[true, false, false, false, true, true, true, false, false, false, false, false, false] rfl rfl (take_ofW HT_.out HW_.out (by kernel_rfl)) (fun _ _ _ h => (h.2.1 _ rfl).elim) (Or.inl ⟨by rfl, ?_⟩) hHeld ?_ ?_
          rotate_left
          · rintro w' ⟨s0, s1, s2, s3⟩
            go_simp
            with_reducible rfl
          rotate_left
          · simp only [Act.put, List.setIfInBounds_toArray, List.set_cons_zero, List.set_cons_succ, i64_w, i32_w]
            rfl
          refine pure_ (i := 1) (N := some 120) (v := ?_) (a' := ?_) #[true, true, false, false, true, true, true, false, false, false, false, false, false] rfl rfl (any_of HT_.out (by kernel_rfl)) (fun _ _ _ h => (h.2.1 _ rfl).elim) (Or.inl ⟨by rfl, ?_⟩) ?_ ?_
          rotate_left
          · intro w'
            go_simp
            with_reducible rfl
          rotate_left
          · simp only [Act.put, List.setIfInBounds_toArray, List.set_cons_zero, List.set_cons_succ, i64_w, i32_w]
            rfl
          refine pure_ (i := 2) (N := some 121) (v := ?_) (a' := ?_) #[true, true, true, false, true, true, true, false, false, false, false, false, false] rfl rfl (any_of HT_.out (by kernel_rfl)) (fun _ _ _ h => (h.2.1 _ rfl).elim) (Or.inl ⟨by rfl, ?_⟩) ?_ ?_
          rotate_left
          · intro w'
            go_simp
            with_reducible rfl
          rotate_left
          · simp only [Act.put, List.setIfInBounds_toArray, List.set_cons_zero, List.set_cons_succ, i64_w, i32_w]
            rfl
          refine take_ (i := 3) (N := some 122) (v := ?_) (a' := ?_) #[true, true, true, true, true, true, true, false, false, false, false, false, false] rfl rfl (take_ofW HT_.out HW_.out (by kernel_rfl)) (fun _ _ _ h => (h.2.1 _ rfl).elim) (Or.inl ⟨by rfl, ?_⟩) hHeld ?_ ?_
          rotate_left
          · rintro w' ⟨s0, s1, s2, s3⟩
            go_simp
            with_reducible rfl
          rotate_left
          · simp only [Act.put, List.setIfInBounds_toArray, List.set_cons_zero, List.set_cons_succ, i64_w, i32_w]
            rfl
          refine take_ (i := 7) (N := some 126) (v := ?_) (a' := ?_) #[true, true, true, true, true, true, true, true, false, false, false, false, false] rfl rfl (take_ofW HT_.out HW_.out (by kernel_rfl)) (fun _ _ _ h => (h.2.1 _ rfl).elim) (Or.inl ⟨by rfl, ?_⟩) hHeld ?_ ?_
          rotate_left
          · rintro w' ⟨s0, s1, s2, s3⟩
            go_simp
            with_reducible rfl
          rotate_left
          · simp only [Act.put, List.setIfInBounds_toArray, List.set_cons_zero, List.set_cons_succ, i64_w, i32_w]
            rfl
          refine pure_ (i := 8) (N := some 127) (v := ?_) (a' := ?_) #[true, true, true, true, true, true, true, true, true, false, false, false, false] rfl rfl (any_of HT_.out (by kernel_rfl)) (fun _ _ _ h => (h.2.1 _ rfl).elim) (Or.inl ⟨by rfl, ?_⟩) ?_ ?_
          rotate_left
          · intro w'
            go_simp
            with_reducible rfl
          rotate_left
          · simp only [Act.put, List.setIfInBounds_toArray, List.set_cons_zero, List.set_cons_succ, i64_w, i32_w]
            rfl
          refine pure_ (i := 9) (N := some 128) (v := ?_) (a' := ?_) #[true, true, true, true, true, true, true, true, true, true, false, false, false] rfl rfl (any_of HT_.out (by kernel_rfl)) (fun _ _ _ h => (h.2.1 _ rfl).elim) (Or.inl ⟨by rfl, ?_⟩) ?_ ?_
          rotate_left
          · intro w'
            go_simp
            with_reducible rfl
          rotate_left
          · simp only [Act.put, List.setIfInBounds_toArray, List.set_cons_zero, List.set_cons_succ, i64_w, i32_w]
            rfl
          refine take_ (i := 10) (N := some 129) (v := ?_) (a' := ?_) #[true, true, true, true, true, true, true, true, true, true, true, false, false] rfl rfl (take_ofW HT_.out HW_.out (by kernel_rfl)) (fun _ _ _ h => (h.2.1 _ rfl).elim) (Or.inl ⟨by rfl, ?_⟩) hHeld ?_ ?_
          rotate_left
          · rintro w' ⟨s0, s1, s2, s3⟩
            go_simp
            with_reducible rfl
          rotate_left
          · simp only [Act.put, List.setIfInBounds_toArray, List.set_cons_zero, List.set_cons_succ, i64_w, i32_w]
            rfl
          refine pure_ (i := 11) (N := some 130) (v := ?_) (a' := ?_) #[true, true, true, true, true, true, true, true, true, true, true, true, false] rfl rfl (any_of HT_.out (by kernel_rfl)) (fun _ _ _ h => (h.2.1 _ rfl).elim) (Or.inl ⟨by rfl, ?_⟩) ?_ ?_
          rotate_left
          · intro w'
            go_simp
            with_reducible rfl
          rotate_left
          · simp only [Act.put, List.setIfInBounds_toArray, List.set_cons_zero, List.set_cons_succ, i64_w, i32_w]
            rfl
          refine pure_ (i := 12) (N := some 131) (v := ?_) (a' := ?_) #[true, true, true, true, true, true, true, true, true, true, true, true, true] rfl rfl (any_of HT_.out (by kernel_rfl)) (fun _ _ _ h => (h.2.1 _ rfl).elim) (Or.inl ⟨by rfl, ?_⟩) ?_ ?_
          rotate_left
          · intro w'
            go_simp
            with_reducible rfl
          rotate_left
          · simp only [Act.put, List.setIfInBounds_toArray, List.set_cons_zero, List.set_cons_succ, i64_w, i32_w]
            rfl
          refine done_ (done_of HT_.out (by kernel_rfl)) ?_
          refine ⟨(fun h => by cases h), (fun _ h => by cases h), ?_⟩
          have hfs : Auto.fallStep T S (n, (u : Int)) = (S2.fall3 (n, (u : Int))).fall4 (n, (u : Int)) := by rw [hS2e'.out]; rfl
          have hf4 : (S2.fall3 (n, (u : Int))).fall4 (n, (u : Int)) = if 0 < wl then (S2.fall3 (n, (u : Int))).modify n (fun s => { s with link := (f : Int) }) else S2.fall3 (n, (u : Int)) := by
            unfold Auto.fall4
            simp only [s3n'.out, Int.toNat_natCast, s3w'.out, hwl'.out]
          rw [hf4] at hfs
          have hfs' := Lib.hid hfs
          clear hfs hf4 hHeld
          by_cases hw0 : 0 < wl
          · have hd : decide ((0 : Int) < (wl : Int)) = true := decide_eq_true (by omega)
            have hw0' := Lib.hid hw0
            clear hw0
            gi_wp2
            refine hclose'.out _ ?_ ?_
            · rw [hfs'.out, if_pos hw0'.out]
              exact B9'.out.setLink (f : Int) hn3
            · exact (hM9'.out.trans (Mods.setCell (S := fun k => k = w.heap.size + 1) _ ⟨w.heap.size + 1, n * 4 + 2, none⟩ (.int .i64 (f : Int)) rfl) (fun _ _ h => h)).drew
          · have hd : decide ((0 : Int) < (wl : Int)) = false := decide_eq_false (by omega)
            have hw0' := Lib.hid hw0
            clear hw0
            gi_wp2
            refine hclose'.out _ ?_ ?_
            · rw [hfs'.out, if_neg hw0'.out]
              exact B9'.out
            · exact hM9'.out.drew
end Go.Proofs.Ytlkiajepahkliaa
