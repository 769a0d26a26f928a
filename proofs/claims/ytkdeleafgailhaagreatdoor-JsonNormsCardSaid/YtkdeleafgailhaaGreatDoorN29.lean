/- slices.Insert into a row of fields apart. json.Norm: the rows of what it gives lie in blocks apart. json.At, json.Get: the rows of what they give lie in blocks apart. -/
import Derived.Test.YtkdeleafgailhaaGreatDoorN21
import Derived.Test.YtkdeleafgailhaaGreatDoorN9
import Derived.Test.YtkdeleafgailhaaGreatDoorN10
section
set_option linter.unusedVariables false
set_option linter.unusedSimpArgs false
namespace Go.Proofs.YtkdeleafgailhaaGreatDoor
open Go Go.RowKit Go.Proofs.YtkdeleafgailhaaGreatDoorW.PrintWords

theorem APF_app {W : World} : ∀ (l : List JF) {cs cs2 : List Value} {S S2 : List Nat} {l2 : List JF}, cs.length = l.length * 9 → APF W l cs S → APF W l2 cs2 S2 → APF W (l ++ l2) (cs ++ cs2) (S ++ S2)
  | [], cs, cs2, S, S2, l2, hl, h, h2 => by
    rw [APF] at h
    subst h
    have : cs = [] := List.eq_nil_of_length_eq_zero (by simpa using hl)
    subst this
    exact h2
  | .mk nm v :: xs, cs, cs2, S, S2, l2, hl, h, h2 => by
    rw [APF] at h
    rw [List.length_cons] at hl
    obtain ⟨S1, S3, h1, h3, rfl⟩ := h
    rw [List.cons_append, APF]
    refine ⟨S1, S3 ++ S2, ?_, ?_, by rw [List.append_assoc]⟩
    · rw [List.drop_append_of_le_length (by omega), List.take_append_of_le_length (by rw [List.length_drop]; omega)]; exact h1
    · rw [List.drop_append_of_le_length (by omega)]
      exact APF_app xs (by rw [List.length_drop]; omega) h3 h2
theorem APF_parts {W : World} : ∀ (l : List JF) (m : Nat) {cs : List Value} {S : List Nat}, cs.length = l.length * 9 → m ≤ l.length → APF W l cs S → ∃ S1 S2, APF W (l.take m) (cs.take (m * 9)) S1 ∧ APF W (l.drop m) (cs.drop (m * 9)) S2 ∧ S = S1 ++ S2
  | l, 0, cs, S, hl, hm, h => ⟨[], S, by rw [List.take_zero, APF], by simpa using h, rfl⟩
  | [], m + 1, cs, S, hl, hm, h => by simp at hm
  | .mk nm v :: xs, m + 1, cs, S, hl, hm, h => by
    rw [APF] at h
    rw [List.length_cons] at hl hm
    obtain ⟨S1, S2, h1, h2, rfl⟩ := h
    obtain ⟨A, B, h3, h4, rfl⟩ := APF_parts xs m (by rw [List.length_drop]; omega) (by omega) h2
    refine ⟨S1 ++ A, B, ?_, ?_, by rw [List.append_assoc]⟩
    · rw [List.take_succ_cons, APF]
      refine ⟨S1, A, ?_, ?_, rfl⟩
      · rw [List.drop_take, List.take_take, Nat.min_eq_left (by omega)]; exact h1
      · rw [List.drop_take, show (m + 1) * 9 - 9 = m * 9 by omega]; exact h3
    · rw [List.drop_succ_cons, show (m + 1) * 9 = 9 + m * 9 by omega, ← List.drop_drop]
      exact h4
set_option maxHeartbeats 1000000 in
/-- The row's cells behind an insertion. -/
theorem insert_row (base p n : Nat) (v : Value) (inner cs : List Value) (vb : Nat) (w : World) (hown' : w.ownsRow base 69 9 v n inner) (h1in : ∀ u ∈ inner, u.oneCell' = true) (hcs : cs.length = 9) (h1 : ∀ u ∈ cs, u.oneCell' = true)
    (hvb : w.heap[vb]? = some (.cells cs.toArray 69 (0, 0))) (hne : v.ownBlock ≠ some vb) (hp : p ≤ n) (hbase : base ≤ w.heap.size) (hn : n ≤ 4294967296) :
    Calls Tryz.prog 72 #[v, .int .i64 p, .slice (some ⟨vb, 0, none⟩) 1 1] w fun e w' => ∃ v1, e = .returned v1 ∧ w'.ownsRow base 69 9 v1 (n + 1) (inner.take (p * 9) ++ cs ++ inner.drop (p * 9)) ∧ w.grownBy w' v.ownBlock ∧ (v1.ownBlock = v.ownBlock ∨ ∃ b, v1.ownBlock = some b ∧ w.heap.size ≤ b) := by
  have hil : inner.length = n * 9 := hown'.1
  by_cases he : p = n
  · subst he
    refine (insert_end base v p inner cs vb w hown' hvb hcs h1 hbase hn).mono ?_
    rintro e w' ⟨v1, rfl, ho, hg, hat⟩
    refine ⟨v1, rfl, ?_, hg, hat⟩
    rw [← hil, List.take_length, List.drop_length, List.append_nil]
    exact ho
  · have hlt : p < n := by omega
    rcases hown'.2 with ⟨_, hz⟩ | ⟨g, c, cur, rfl, hgb, hg, hnc, hcm, hcs2, htk⟩
    · omega
    · have hcur : cur.toList.length = c * 9 := by simpa using hcs2
      subst htk
      by_cases hroom : n + 1 ≤ c
      · refine (insert_shift base g n p c cur.toList cs vb w hgb hg hroom hcm hcur h1in hlt (fun e => hne (by rw [e]; rfl)) hvb hcs h1 hn).mono ?_
        rintro e w' ⟨v1, rfl, ho, hg1, hat⟩
        refine ⟨v1, rfl, ?_, hg1, .inl hat⟩
        rw [List.take_take, Nat.min_eq_left (Nat.mul_le_mul_right _ hp)]
        exact ho
      · refine (insert_grow base g n p c cur.toList cs vb w hgb hg hnc hcur h1in hlt (by omega) hvb hcs h1 hbase hn).mono ?_
        rintro e w' ⟨v1, rfl, ho, hg1, hat⟩
        have hg2 : w.grownBy w' (some g) := ⟨hg1.os, hg1.tape, hg1.output, hg1.size, fun k hk _ => hg1.block k hk (by simp)⟩
        refine ⟨v1, rfl, ?_, hg2, .inr hat⟩
        rw [List.take_take, Nat.min_eq_left (Nat.mul_le_mul_right _ hp)]
        exact ho
theorem own_uniq {w : World} {base e sz n : Nat} {v : Value} {xs ys : List Value} (h8 : w.ownsRow base e sz v n xs) (h9 : w.ownsRow base e sz v n ys) : xs = ys := by
  rcases h8.2 with ⟨rfl, hn⟩ | ⟨g, c, cur, rfl, _, hg, _, _, _, ht⟩
  · have l1 := h8.1
    have l2 := h9.1
    rw [hn] at l1 l2
    rw [List.eq_nil_of_length_eq_zero (by omega : xs.length = 0), List.eq_nil_of_length_eq_zero (by omega : ys.length = 0)]
  · rcases h9.2 with ⟨hh, _⟩ | ⟨g', c', cur', hh, _, hg', _, _, _, ht'⟩
    · cases hh
    · injection hh with e1 e2 e3
      injection e1 with e1
      injection e1 with e1
      subst e1
      rw [hg] at hg'
      injection hg' with hg'
      injection hg' with hg'
      subst hg'
      rw [← ht, ← ht']
theorem RAF_inserted {W w1 : World} {base p : Nat} {v v1 : Value} {xs : List JF} {nm : ByteArray} {y : JV} {inner cells : List Value} {Se S1 : List Nat} (hown : W.ownsRow base 69 9 v xs.length inner) (hr : Reps (kF.M W base (fun k => True ∧ some k ≠ v.ownBlock)) 9 xs inner) (hL : APF W xs inner Se) (hN : Se.Nodup) (hB : ∀ k ∈ Se, base ≤ k ∧ k < W.heap.size ∧ some k ≠ v.ownBlock)
    (hM : kF.M W base (fun k => True ∧ some k ≠ v.ownBlock) (.mk nm y) (.string nm :: cells)) (hA : AP W y cells S1) (hn1 : S1.Nodup) (hS : ∀ k ∈ S1, base ≤ k ∧ k < W.heap.size ∧ some k ≠ v.ownBlock) (hd : ∀ k ∈ S1, k ∉ Se) (hpx : p ≤ xs.length)
    (hown1 : w1.ownsRow base 69 9 v1 (xs.length + 1) (inner.take (p * 9) ++ (.string nm :: cells) ++ inner.drop (p * 9))) (hg1 : W.grownBy w1 v.ownBlock) (hat1 : v1.ownBlock = v.ownBlock ∨ ∃ b, v1.ownBlock = some b ∧ W.heap.size ≤ b) :
    ∃ Se1, RAF w1 base v1 (xs.take p ++ .mk nm y :: xs.drop p) Se1 := by
  have hcl : cells.length = 8 := by have := kF.K_len (kF.K_of_M hM); rw [List.length_cons, kF_sz] at this; omega
  have hil := hown.1
  obtain ⟨_, inner', ho', hr'⟩ := R_inserted (d := kF) (e := 69) (fun _ _ => trivial) hr hM (fun _ hk => hk) (fun _ _ => trivial) hpx hown1 hg1 hat1
  have he : inner' = inner.take (p * 9) ++ (.string nm :: cells) ++ inner.drop (p * 9) := own_uniq ho' (by rw [show (xs.take p ++ .mk nm y :: xs.drop p).length = xs.length + 1 by simp; omega]; exact hown1)
  subst he
  obtain ⟨A, B, h1, h2, rfl⟩ := APF_parts xs p hil hpx hL
  have hmv : ∀ k, k < W.heap.size → some k ≠ v.ownBlock → w1.heap[k]? = W.heap[k]? := fun k hk hne => hg1.block k hk hne
  have hNn := List.nodup_append.1 hN
  refine ⟨A ++ (S1 ++ B), _, ho', hr', ?_, ?_, ?_⟩
  · rw [List.append_assoc]
    refine APF_app (xs.take p) (by rw [List.length_take, List.length_take]; omega) (APF_move _ h1 (fun k hk => hmv k (hB k (List.mem_append_left _ hk)).2.1 (hB k (List.mem_append_left _ hk)).2.2)) ?_
    rw [APF]
    refine ⟨S1, B, ?_, ?_, rfl⟩
    · rw [show ((.string nm :: cells ++ inner.drop (p * 9)).drop 1).take 8 = cells by
        rw [List.cons_append, List.drop_succ_cons, List.drop_zero, List.take_append_of_le_length (by omega), List.take_of_length_le (by omega)]]
      exact AP_move y hA (fun k hk => hmv k (hS k hk).2.1 (hS k hk).2.2)
    · rw [show (.string nm :: cells ++ inner.drop (p * 9)).drop 9 = inner.drop (p * 9) by
        rw [List.cons_append, List.drop_succ_cons, List.drop_append_of_le_length (by omega), List.drop_of_length_le (by omega), List.nil_append]]
      exact APF_move _ h2 (fun k hk => hmv k (hB k (List.mem_append_right _ hk)).2.1 (hB k (List.mem_append_right _ hk)).2.2)
  · refine List.nodup_append.2 ⟨hNn.1, List.nodup_append.2 ⟨hn1, hNn.2.1, ?_⟩, ?_⟩
    · intro k hk k2 hk2 he
      subst he
      exact hd k hk (List.mem_append_right _ hk2)
    · intro k hk k2 hk2 he
      subst he
      rcases List.mem_append.1 hk2 with hk2 | hk2
      · exact hd k hk2 (List.mem_append_left _ hk)
      · exact hNn.2.2 k hk k hk2 rfl
  · have hsz : W.heap.size ≤ w1.heap.size := hg1.size
    have hall : ∀ k, (k ∈ A ++ B ∨ k ∈ S1) → base ≤ k ∧ k < w1.heap.size ∧ some k ≠ v1.ownBlock := by
      intro k hk
      rcases hk with hk | hk
      · exact ⟨(hB k hk).1, Nat.lt_of_lt_of_le (hB k hk).2.1 hsz, own_after hat1 (hB k hk).2.2 (hB k hk).2.1⟩
      · exact ⟨(hS k hk).1, Nat.lt_of_lt_of_le (hS k hk).2.1 hsz, own_after hat1 (hS k hk).2.2 (hS k hk).2.1⟩
    intro k hk
    rcases List.mem_append.1 hk with hk | hk
    · exact hall k (.inl (List.mem_append_left _ hk))
    · rcases List.mem_append.1 hk with hk | hk
      · exact hall k (.inr hk)
      · exact hall k (.inl (List.mem_append_right _ hk))
theorem insert_newA (base p : Nat) (v : Value) (xs : List JF) (Se : List Nat) (nm : ByteArray) (y : JV) (cells : List Value) (S1 : List Nat) (w : World) (hR : RAF w base v xs Se) (hM : kV.M w base (fun k => True ∧ some k ≠ v.ownBlock) y cells) (hA : AP w y cells S1) (hn1 : S1.Nodup) (hS : ∀ k ∈ S1, base ≤ k ∧ k < w.heap.size ∧ some k ≠ v.ownBlock) (hd : ∀ k ∈ S1, k ∉ Se) (hp : p ≤ xs.length) (hbase : base ≤ w.heap.size) (hn : xs.length ≤ 4294967296) :
    Calls Tryz.prog 72 #[v, .int .i64 p, .slice (some ⟨w.heap.size, 0, none⟩) 1 1] (w.alloc (.cells (.string nm :: cells).toArray 69)) fun e w' => ∃ v1 Se1, e = .returned v1 ∧ RAF w' base v1 (xs.take p ++ .mk nm y :: xs.drop p) Se1 ∧ Below base w w' := by
  have hb := (Below.refl _ w).alloc (Nat.le_refl _) (.cells (.string nm :: cells).toArray 69)
  have hM5 : kF.M (w.alloc (.cells (.string nm :: cells).toArray 69)) base (fun k => True ∧ some k ≠ v.ownBlock) (.mk nm y) (.string nm :: cells) := ⟨[.string nm], cells, rfl, rfl, Kd.M_below hM hb⟩
  have hR2 := hR.below hb
  have hown0 := hR
  obtain ⟨inner, hown, hr, hL, hN, hB⟩ := hR2
  obtain ⟨inner0, hown0, _⟩ := hown0
  have h1in : ∀ u ∈ inner, u.oneCell' = true := Kd.reps_one hr (by omega) (fun _ _ hq => kF.K_one (kF.K_of_M hq))
  refine (insert_row base p xs.length v inner (.string nm :: cells) w.heap.size _ hown h1in (by have := kF.K_len (kF.K_of_M hM5); exact this) (kF.K_one (kF.K_of_M hM5)) (heap_alloc_new _ _) (fun h => by have := own_lt hown0 _ h; omega) hp (by simp; omega) hn).mono ?_
  rintro e w' ⟨v1, rfl, ho, hg, hat⟩
  obtain ⟨Se1, hR1⟩ := RAF_inserted hown hr hL hN hB hM5 (AP_move y hA (fun k hk => hb.block k (hS k hk).2.1)) hn1 (fun k hk => ⟨(hS k hk).1, by have := (hS k hk).2.1; simp; omega, (hS k hk).2.2⟩) hd hp ho hg hat
  exact ⟨v1, Se1, rfl, hR1, pw_below_grown (hb.mono hbase) _ (by simp; omega) hg (fun k hk => own_base hown0 k hk)⟩
end Go.Proofs.YtkdeleafgailhaaGreatDoor
end
section
set_option linter.unusedVariables false
set_option linter.unusedSimpArgs false
namespace Go.Proofs.YtkdeleafgailhaaGreatDoor
open Go Go.RowKit Go.Proofs.YtkdeleafgailhaaGreatDoorW.PrintWords

def NormOKA (x : JV) : Prop := ∀ (w : World) (cs : List Value), kV.K w x cs → Facts w → x.wt ≤ 4294967296 → x.ints →
  Calls Tryz.prog 9 #[.agg cs.toArray] w fun e w' => ∃ cs' S, e = .returned (.agg cs'.toArray) ∧ kV.M w' w.heap.size (fun _ => True) x.norm cs' ∧ Apt w' w.heap.size x.norm cs' S ∧ Below w.heap.size w w'
theorem RAV.fresh {W W' : World} {base : Nat} {v : Value} {xs : List JV} {Se S1 : List Nat} {x : JV} {cs : List Value} (h : RAV W base v xs Se) (hA : Apt W' W.heap.size x cs S1) (hb : base ≤ W.heap.size) : (∀ k ∈ S1, base ≤ k ∧ k < W'.heap.size ∧ some k ≠ v.ownBlock) ∧ ∀ k ∈ S1, k ∉ Se := by
  obtain ⟨inner, h1, _, _, _, h5⟩ := h
  refine ⟨fun k hk => ⟨Nat.le_trans hb (hA.2.2 k hk).1, (hA.2.2 k hk).2, fun he => ?_⟩, fun k hk hk2 => ?_⟩
  · have := own_lt h1 k he.symm
    have := (hA.2.2 k hk).1
    omega
  · have := (h5 k hk2).2.1
    have := (hA.2.2 k hk).1
    omega
theorem RAF.fresh {W W' : World} {base : Nat} {v : Value} {xs : List JF} {Se S1 : List Nat} {x : JV} {cs : List Value} (h : RAF W base v xs Se) (hA : Apt W' W.heap.size x cs S1) (hb : base ≤ W.heap.size) : (∀ k ∈ S1, base ≤ k ∧ k < W'.heap.size ∧ some k ≠ v.ownBlock) ∧ ∀ k ∈ S1, k ∉ Se := by
  obtain ⟨inner, h1, _, _, _, h5⟩ := h
  refine ⟨fun k hk => ⟨Nat.le_trans hb (hA.2.2 k hk).1, (hA.2.2 k hk).2, fun he => ?_⟩, fun k hk hk2 => ?_⟩
  · have := own_lt h1 k he.symm
    have := (hA.2.2 k hk).1
    omega
  · have := (h5 k hk2).2.1
    have := (hA.2.2 k hk).1
    omega
theorem heap_sets8 {W : World} {g k : Nat} (hk : k ≠ g) {u0 u1 u2 u3 u4 u5 u6 u7 : Value} : ((((((((W.setCell ⟨g, 0, none⟩ u0).setCell ⟨g, 1, none⟩ u1).setCell ⟨g, 2, none⟩ u2).setCell ⟨g, 3, none⟩ u3).setCell ⟨g, 4, none⟩ u4).setCell ⟨g, 5, none⟩ u5).setCell ⟨g, 6, none⟩ u6).setCell ⟨g, 7, none⟩ u7).heap[k]? = W.heap[k]? := by
  iterate 8 refine (Below.heap_setCell _ _ _ k hk).trans ?_
  rfl
theorem RAV_sets {W1 : World} {g b : Nat} {v : Value} {out : List JV} {Se : List Nat} {u0 u1 u2 u3 u4 u5 u6 u7 : Value} (h : RAV W1 b v out Se) (hg : g < b) :
    RAV ((((((((W1.setCell ⟨g, 0, none⟩ u0).setCell ⟨g, 1, none⟩ u1).setCell ⟨g, 2, none⟩ u2).setCell ⟨g, 3, none⟩ u3).setCell ⟨g, 4, none⟩ u4).setCell ⟨g, 5, none⟩ u5).setCell ⟨g, 6, none⟩ u6).setCell ⟨g, 7, none⟩ u7) b v out Se :=
  RAV_move h (fun k hk _ => heap_sets8 (by omega)) (by simp [World.setCell])
theorem RAF_sets {W1 : World} {g b : Nat} {v : Value} {out : List JF} {Se : List Nat} {u0 u1 u2 u3 u4 u5 u6 u7 : Value} (h : RAF W1 b v out Se) (hg : g < b) :
    RAF ((((((((W1.setCell ⟨g, 0, none⟩ u0).setCell ⟨g, 1, none⟩ u1).setCell ⟨g, 2, none⟩ u2).setCell ⟨g, 3, none⟩ u3).setCell ⟨g, 4, none⟩ u4).setCell ⟨g, 5, none⟩ u5).setCell ⟨g, 6, none⟩ u6).setCell ⟨g, 7, none⟩ u7) b v out Se :=
  RAF_move h (fun k hk _ => heap_sets8 (by omega)) (by simp [World.setCell])

set_option maxRecDepth 100000 in
set_option maxHeartbeats 4000000 in
theorem norm_listA (w : World) (t ng : Bool) (ds tx : ByteArray) (ex : Int) (A B : Option Addr) (nl c nf d : Nat) (hF : Facts w) (xs : List JV) (hC : kV.C w A nl xs) (hnc : nl ≤ c) (hok : ∀ y ∈ xs, NormOKA y) (hwt : JV.wtL xs ≤ 4294967296) (hin : JV.intsL xs) :
    Calls Tryz.prog 9 #[.agg #[.int .i64 4, .bool t, .bool ng, .string ds, .int .i64 ex, .string tx, .slice A nl c, .slice B nf d]] w fun e w' => ∃ cs' S, e = .returned (.agg cs'.toArray) ∧ kV.M w' w.heap.size (fun _ => True) (.mk 4 false false ⟨#[]⟩ 0 ⟨#[]⟩ (JV.normL xs) []) cs' ∧ Apt w' w.heap.size (.mk 4 false false ⟨#[]⟩ 0 ⟨#[]⟩ (JV.normL xs) []) cs' S ∧ Below w.heap.size w w' := by
  have hB0 := ((Below.refl _ w).alloc (Nat.le_refl _) (.cells #[.int .i64 4, .bool t, .bool ng, .string ds, .int .i64 ex, .string tx, .slice A nl c, .slice B nf d] 27)).alloc (by simp) (.cells #[.int .i64 0, .bool false, .bool false, .string ⟨#[]⟩, .int .i64 0, .string ⟨#[]⟩, .slice none 0 0, .slice none 0 0] 27)
  have hlen := hC.1
  have hll := wtL_len xs
  have hnl : nl ≤ 4294967296 := by omega
  have hF2 := hF.below hB0
  have hC2 := Kd.C_below hC hB0
  obtain ⟨e0, e1⟩ := boxes' w (.cells #[.int .i64 4, .bool t, .bool ng, .string ds, .int .i64 ex, .string tx, .slice A nl c, .slice B nf d] 27) (.cells #[.int .i64 0, .bool false, .bool false, .string ⟨#[]⟩, .int .i64 0, .string ⟨#[]⟩, .slice none 0 0, .slice none 0 0] 27)
  clear hC hF
  go_enter Tryz.func9, Tryz.ntmps9
  go_wp2_with fail
  generalize hW2 : ((w.alloc (.cells #[.int .i64 4, .bool t, .bool ng, .string ds, .int .i64 ex, .string tx, .slice A nl c, .slice B nf d] 27)).alloc (.cells #[.int .i64 0, .bool false, .bool false, .string ⟨#[]⟩, .int .i64 0, .string ⟨#[]⟩, .slice none 0 0, .slice none 0 0] 27)) = W2 at *
  have hs2 : W2.heap.size = w.heap.size + 2 := by rw [← hW2]; simp
  replace hB0 := Aside0.mk hB0
  replace e0 := Aside0.mk e0
  replace e1 := Aside0.mk e1
  replace hlen := Aside0.mk hlen
  clear hW2
  go_loopw [3, 36] (fun v i wr => ∃ (j : Nat) (Se : List Nat), i = .int .i64 j ∧ j ≤ nl ∧ RAV wr W2.heap.size v ((xs.take j).map JV.norm) Se ∧ Below W2.heap.size W2 wr) (fun _ i _ => nl - (intOf i).toNat)
  case atStart => exact ⟨0, [], rfl, Nat.zero_le _, RAV_nil _ _, Below.refl _ _⟩
  case round =>
    obtain ⟨j, Se, rfl, hj, hRA, hB⟩ := hrel
    have hR := hRA.R
    replace hRA := Aside0.mk hRA
    obtain ⟨VA, vc, hv⟩ := Kd.R_slice hR
    rw [show ((xs.take j).map JV.norm).length = j by rw [List.length_map, List.length_take, hlen.out]; omega] at hv
    subst hv
    by_cases hlt : j < nl
    · obtain ⟨ad, x, A6, c6, A7, c7, rfl, hx, hcs, l6, g6, l7, g7⟩ := at_V (Kd.C_below hC2 hB) j hlt
      have hK := kV_mkK l6 g6 l7 g7
      unfold JV.cells at hcs hK
      obtain ⟨q0, q1, q2, q3, q4, q5, q6, q7, _⟩ := hcs
      replace hR := Aside0.mk hR
      replace hx := Aside0.mk hx
      have hxm : x ∈ xs := List.mem_of_getElem? hx.out
      have hnx := hok x hxm
      have hwx := wt_memL hxm
      have hB3 := (Below.refl _ wr).alloc (Nat.le_refl _) (.cells #[.int .i64 x.kind, .bool x.truth, .bool x.neg, .string x.digits, .int .i64 x.exp, .string x.text, .slice A6 x.list.length c6, .slice A7 x.fields.length c7] 27)
      have cN := hnx _ _ (kV.K_below hB3 hK) ((hF2.below hB).below hB3) (by omega) (ints_memL hxm hin)
      clear hnx hK hxm
      replace hB3 := Aside0.mk hB3
      go_wp2_with (first
        | (go_at_call 9; refine cN.mono ?_; rintro e w' ⟨cs', S1, rfl, hM, hAp, hb⟩; obtain ⟨vl, vf, rfl, hRl, hRf⟩ := kV_openM hM; unfold JV.cells at hM hAp; obtain ⟨Al, cl, rfl⟩ := Kd.R_slice hRl; obtain ⟨Af, cf, rfl⟩ := Kd.R_slice hRf; unfold JV.cells; clear hRl hRf; have hR1 := Kd.R_below hR.out hB3.out; have hRA1 := hRA.out.below hB3.out; have hfr := RAV.fresh hRA1 hAp (by have := hB.size; simp; omega); have hRA2 := Aside0.mk (hRA1.below hb); have hS1 := Aside0.mk hfr.1; have hd1 := Aside0.mk hfr.2; have hA1 := Aside0.mk hAp.1; have hN1 := Aside0.mk hAp.2.1; clear hRA1 hfr hAp; obtain ⟨inner, hown⟩ := Kd.R_own hR1; have hM1 := kV.M_lower (base' := W2.heap.size) (by have := hB.size; simp; omega) (Kd.M_new hM hown); have hR2 := Kd.R_below hR1 hb; have hB4 := (hB.trans (hB3.out.mono hB.size)).trans (hb.mono (by have := hB.size; simp; omega)); have hBs := hB4.size; clear hown hR1 hM; replace hM1 := Aside0.mk hM1; replace hR2 := Aside0.mk hR2)
        | ((with_reducible refine gate_builtin (b := .append) (xs := #[.tmp 40, .tmp 43]) rfl ?_); at_builtin; refine RAV_append (w0 := W2) W2.heap.size rfl (.tmp 40) (.tmp 43) 24 112 zV rfl Tryz.underlying24 infoV rfl (by omega) (.slice VA j vc) ((xs.take j).map JV.norm) x.norm [.int .i64 x.norm.kind, .bool x.norm.truth, .bool x.norm.neg, .string x.norm.digits, .int .i64 x.norm.exp, .string x.norm.text, .slice Al x.norm.list.length cl, .slice Af x.norm.fields.length cf] Se S1 rfl rfl hM1.out hA1.out hN1.out hS1.out hd1.out hRA2.out hB4 hBs ?aL ?_; (case aL => rw [List.length_map, List.length_take, hlen.out]; have := hlen.out; have : min j nl ≤ nl := Nat.min_le_right _ _; omega); intro v1 w1 hR3 hB5 hg5 hat; clear hg5 hat hM1 hR2 hR hRA2 hS1 hd1 hA1 hN1))
      go_roundw
      case rel =>
        refine ⟨j + 1, Se ++ S1, by go_num, by omega, ?_, hB5⟩
        have hx2 := hx.out
        rw [List.take_add_one, hx2, Option.toList_some, List.map_append]
        exact hR3
      case measure => simp [intOf]; omega
    · obtain rfl : j = nl := by omega
      have hb0 := (hB.block w.heap.size (by omega)).trans e0.out
      have hb1 := (hB.block (w.heap.size + 1) (by omega)).trans e1.out
      have hc0 := cellAll hb0
      have hf0 := frozenAll hb0
      have hc1 := cellAll hb1
      have hf1 := frozenAll hb1
      clear hb0 hb1
      replace hR := Aside0.mk hR
      have hRAj : RAV wr W2.heap.size (.slice VA j vc) (JV.normL xs) Se := by
        rw [normL_map]
        have := hRA.out
        rw [← hlen.out, List.take_length] at this
        rw [← hlen.out]
        exact this
      have hRj : kV.R 27 wr W2.heap.size (fun _ => True) (.slice VA j vc) (JV.normL xs) := hRAj.R
      replace hRAj := Aside0.mk hRAj
      replace hRj := Aside0.mk hRj
      clear hRA
      go_wp2_with fail
      refine bodyPost_ret (v := .agg #[.int .i64 4, .bool false, .bool false, .string ⟨#[]⟩, .int .i64 0, .string ⟨#[]⟩, .slice VA j vc, .slice none 0 0]) (by simp [results, Tryz.results9, go_sem, hc1]) rfl ?_
      obtain ⟨S, hS⟩ := Apt_list 4 false false ⟨#[]⟩ 0 ⟨#[]⟩ (RAV_sets (g := w.heap.size + 1) hRAj.out (by omega))
      refine ⟨[.int .i64 4, .bool false, .bool false, .string ⟨#[]⟩, .int .i64 0, .string ⟨#[]⟩, .slice VA j vc, .slice none 0 0], S, rfl, ?_, hS.lower (by omega), ?_⟩
      · exact kV_mkM (x := .mk 4 false false ⟨#[]⟩ 0 ⟨#[]⟩ (JV.normL xs) []) (R_setsV (W := W2) hRj.out (by omega) (by omega)) (R_nilF _ _ _)
      · iterate 8 refine below_set ?_ (by omega)
        exact hB0.out.trans (hB.mono (by omega))

set_option maxRecDepth 100000 in
set_option maxHeartbeats 4000000 in
theorem norm_fieldsA (w : World) (t ng : Bool) (ds tx : ByteArray) (ex : Int) (A B : Option Addr) (nl c nf d : Nat) (hF : Facts w) (fs out : List JF) (hC : kF.C w B nf fs) (hnd : nf ≤ d) (hf : ∀ W, kF.C W B nf fs → Facts W → Calls Tryz.prog 35 #[.slice B nf d] W fun e w' => ∃ v Se, e = .returned v ∧ RAF w' W.heap.size v out Se ∧ Below W.heap.size W w') :
    Calls Tryz.prog 9 #[.agg #[.int .i64 5, .bool t, .bool ng, .string ds, .int .i64 ex, .string tx, .slice A nl c, .slice B nf d]] w fun e w' => ∃ cs' S, e = .returned (.agg cs'.toArray) ∧ kV.M w' w.heap.size (fun _ => True) (.mk 5 false false ⟨#[]⟩ 0 ⟨#[]⟩ [] out) cs' ∧ Apt w' w.heap.size (.mk 5 false false ⟨#[]⟩ 0 ⟨#[]⟩ [] out) cs' S ∧ Below w.heap.size w w' := by
  have hB0 := ((Below.refl _ w).alloc (Nat.le_refl _) (.cells #[.int .i64 5, .bool t, .bool ng, .string ds, .int .i64 ex, .string tx, .slice A nl c, .slice B nf d] 27)).alloc (by simp) (.cells #[.int .i64 0, .bool false, .bool false, .string ⟨#[]⟩, .int .i64 0, .string ⟨#[]⟩, .slice none 0 0, .slice none 0 0] 27)
  have hF2 := Aside0.mk (hF.below (below_drew hB0))
  obtain ⟨e0, e1⟩ := boxes w (.cells #[.int .i64 5, .bool t, .bool ng, .string ds, .int .i64 ex, .string tx, .slice A nl c, .slice B nf d] 27) (.cells #[.int .i64 0, .bool false, .bool false, .string ⟨#[]⟩, .int .i64 0, .string ⟨#[]⟩, .slice none 0 0, .slice none 0 0] 27)
  replace e0 := Aside0.mk e0
  replace e1 := Aside0.mk e1
  have hC2 := Kd.C_below hC (below_drew hB0)
  replace hC2 := Aside0.mk hC2
  clear hC
  replace hB0 := Aside0.mk hB0
  clear hF
  go_enter Tryz.func9, Tryz.ntmps9
  go_wp2_with fail
  go_region_with (go_at_call 35; refine (hf _ hC2.out hF2.out).mono ?_; rintro e w' ⟨v, Se, rfl, hRA, hb⟩; have hR := hRA.R; obtain ⟨VA, vc, rfl⟩ := Kd.R_slice hR; replace hR := Aside0.mk hR; replace hRA := Aside0.mk hRA; have hb0 := (hb.block w.heap.size (by simp <;> omega)).trans e0.out; have hb1 := (hb.block (w.heap.size + 1) (by simp <;> omega)).trans e1.out; have hc0 := cellAll hb0; have hf0 := frozenAll hb0; have hc1 := cellAll hb1; have hf1 := frozenAll hb1; clear hb0 hb1)
  all_goals (go_wp2_with fail)
  all_goals (refine bodyPost_ret (v := .agg #[.int .i64 5, .bool false, .bool false, .string ⟨#[]⟩, .int .i64 0, .string ⟨#[]⟩, .slice none 0 0, .slice VA out.length vc]) (by simp [results, Tryz.results9, go_sem, hc1]) rfl ?_)
  all_goals (obtain ⟨S, hS⟩ := Apt_fields 5 false false ⟨#[]⟩ 0 ⟨#[]⟩ (RAF_sets (g := w.heap.size + 1) hRA.out (by simp <;> omega)))
  all_goals (refine ⟨[.int .i64 5, .bool false, .bool false, .string ⟨#[]⟩, .int .i64 0, .string ⟨#[]⟩, .slice none 0 0, .slice VA out.length vc], S, rfl, ?_, hS.lower (by simp <;> omega), ?_⟩)
  all_goals (first
    | (iterate 8 refine below_set ?_ (by omega)
       exact (below_drew hB0.out).trans (hb.mono (by simp <;> omega)))
    | exact kV_mkM (x := .mk 5 false false ⟨#[]⟩ 0 ⟨#[]⟩ [] out) (R_nilV _ _ _) (R_sets hR.out (by simp <;> omega) (by simp <;> omega)))

set_option maxRecDepth 100000 in
set_option maxHeartbeats 4000000 in
theorem fieldsA_any (w : World) (A : Option Addr) (n c : Nat) (fs : List JF) (hnc : n ≤ c) (hC : kF.C w A n fs) (hF : Facts w) (hok : ∀ f ∈ fs, NormOKA f.value) (hwt : JV.wtF fs ≤ 4294967296) (hin : JV.intsF fs) :
    Calls Tryz.prog 35 #[.slice A n c] w fun e w' => ∃ v Se, e = .returned v ∧ RAF w' w.heap.size v (JV.normF fs []) Se ∧ Below w.heap.size w w' := by
  have hlen := hC.1
  have hll := wtF_len fs
  have hnl : n ≤ 4294967296 := by omega
  replace hlen := Aside0.mk hlen
  go_enter Tryz.func35, Tryz.ntmps35
  go_wp2_with fail
  go_loopw [3, 11] (fun v i wr => ∃ (j : Nat) (Se : List Nat), i = .int .i64 j ∧ j ≤ n ∧ RAF wr w.heap.size v (JV.normF (fs.take j) []) Se ∧ Below w.heap.size w wr) (fun _ i _ => n - (intOf i).toNat)
  case atStart => exact ⟨0, [], rfl, Nat.zero_le _, RAF_nil _ _, Below.refl _ _⟩
  case round =>
    obtain ⟨j, Se, rfl, hj, hRA, hB⟩ := hrel
    have hR := hRA.R
    obtain ⟨VA, vc, rfl, hvc, hCv⟩ := Kd.R_reads hR
    have hrise := rising_normF (fs.take j) [] rising_nil
    have hol := length_normF_le (fs.take j) []
    rw [List.length_take, hlen.out] at hol
    have hsnoc : ∀ x, fs[j]? = some x → JV.normF (fs.take (j + 1)) [] = insF (JV.normF (fs.take j) []) (clean x.name) x.value.norm := by
      rintro ⟨nm, v⟩ hx
      rw [List.take_add_one, hx, Option.toList_some, normF_app, JV.normF, JV.normF]
      rfl
    replace hsnoc := Aside0.mk hsnoc
    obtain ⟨m, hm⟩ : ∃ m, (JV.normF (fs.take j) []).length = m := ⟨_, rfl⟩
    rw [hm] at hvc hCv hol ⊢
    rw [hm] at hR hRA
    by_cases hlt : j < n
    · obtain ⟨ad, x, A6, c6, A7, c7, rfl, hx, hcs, l6, g6, l7, g7⟩ := at_F (Kd.C_below hC hB) j hlt
      have hK := kV_mkK l6 g6 l7 g7
      unfold JV.cells at hcs hK
      obtain ⟨q0, q1, q2, q3, q4, q5, q6, q7, q8, _⟩ := hcs
      generalize JV.normF (fs.take j) [] = out at *
      replace hR := Aside0.mk hR
      replace hRA := Aside0.mk hRA
      replace hx := Aside0.mk hx
      replace hm := Aside0.mk hm
      have hol2 : m ≤ 4294967296 := by have : min j n ≤ j := Nat.min_le_left _ _; simp at hol; omega
      have hxm : x ∈ fs := List.mem_of_getElem? hx.out
      have hnx := hok x hxm
      have hwx := wt_memF hxm
      have hix := ints_memF hxm hin
      have hB3 := (Below.refl _ wr).alloc (Nat.le_refl _) (.cells #[.string x.name, .int .i64 x.value.kind, .bool x.value.truth, .bool x.value.neg, .string x.value.digits, .int .i64 x.value.exp, .string x.value.text, .slice A6 x.value.list.length c6, .slice A7 x.value.fields.length c7] 69)
      have hbx := heap_alloc_new wr (.cells #[.string x.name, .int .i64 x.value.kind, .bool x.value.truth, .bool x.value.neg, .string x.value.digits, .int .i64 x.value.exp, .string x.value.text, .slice A6 x.value.list.length c6, .slice A7 x.value.fields.length c7] 69)
      have hbs := hB.size
      have hK3 := kV.K_below hB3 hK
      have hF3 := (hF.below hB).below hB3
      have cC := clean_any x.name (wr.alloc (.cells #[.string x.name, .int .i64 x.value.kind, .bool x.value.truth, .bool x.value.neg, .string x.value.digits, .int .i64 x.value.exp, .string x.value.text, .slice A6 x.value.list.length c6, .slice A7 x.value.fields.length c7] 69)) (by omega) hF3.tabs
      have hR1 := Kd.R_below hR.out hB3
      have hRA1 := Aside0.mk (hRA.out.below hB3)
      have hB4 := hB.trans (hB3.mono hB.size)
      have hspot := (rising_part hrise (clean x.name)).le
      rw [hm.out] at hspot
      replace hB3 := Aside0.mk hB3
      replace hbx := Aside0.mk hbx
      replace hK3 := Aside0.mk hK3
      replace hF3 := Aside0.mk hF3
      replace hR1 := Aside0.mk hR1
      replace hB4 := Aside0.mk hB4
      replace hnx := Aside0.mk hnx
      clear hK hxm hCv hR hRA hvc hol
      obtain ⟨p, hp⟩ : ∃ p, spot out (clean x.name) = p := ⟨_, rfl⟩
      have hpart := rising_part hrise (clean x.name)
      rw [hp] at hpart hspot
      by_cases hany : (out[p]?).any (fun f => sameB f.name (clean x.name)) = true
      · have cS : ∀ W, kF.C W VA m out → Calls Tryz.prog 69 #[.slice VA m vc, .string (clean x.name), .func (.func 70) #[] #[]] W fun e w' => e = .returned (.tuple #[.int .i64 p, .bool true]) ∧ Below W.heap.size W w' := by
          intro W h
          have := bsearch_any out (clean x.name) W VA m vc p h hpart (by omega)
          rw [hany] at this
          exact this
        replace hpart := Aside0.mk hpart
        replace hany := Aside0.mk hany
        generalize hcn : clean x.name = nm at *
        replace hcn := Aside0.mk hcn
        go_wp2_with (first
          | (go_at_call 34; refine cC.mono ?_; rintro e w1 ⟨rfl, hb1⟩; have hbx1 := (hb1.block wr.heap.size (by simp)).trans hbx.out; have hc := cellAll hbx1; have hf := frozenAll hbx1; replace hbx1 := Aside0.mk hbx1; have hR2 := Aside0.mk (Kd.R_below hR1.out hb1); have hRA2 := Aside0.mk (hRA1.out.below hb1); have hs1 := hb1.size; rw [show (wr.alloc (.cells #[.string x.name, .int .i64 x.value.kind, .bool x.value.truth, .bool x.value.neg, .string x.value.digits, .int .i64 x.value.exp, .string x.value.text, .slice A6 x.value.list.length c6, .slice A7 x.value.fields.length c7] 69)).heap.size = wr.heap.size + 1 by simp] at hs1)
          | (go_at_call 69; refine (cS _ (R_C hR2.out)).mono ?_; rintro e w2 ⟨rfl, hb2⟩; clear hc hf; have hbx2 := (hb2.block wr.heap.size (by omega)).trans hbx1.out; have hc := cellAll hbx2; have hf := frozenAll hbx2; replace hbx2 := Aside0.mk hbx2; have hR3 := Aside0.mk (Kd.R_below hR2.out hb2); have hRA3 := Aside0.mk (hRA2.out.below hb2); have hs2 := hb2.size)
          | fail)
        go_roundw
        case rel =>
          refine ⟨j + 1, Se, by go_num, by omega, ?_, (hB4.out.trans (hb1.mono (by simp; omega))).trans (hb2.mono (by omega))⟩
          rw [hsnoc.out x hx.out, hcn.out, insF_spot hrise, hp, if_pos hany.out]
          exact hRA3.out
        case measure => simp [intOf]; omega
      · have hany : (out[p]?).any (fun f => sameB f.name (clean x.name)) = false := by simpa using hany
        have cS : ∀ W, kF.C W VA m out → Calls Tryz.prog 69 #[.slice VA m vc, .string (clean x.name), .func (.func 70) #[] #[]] W fun e w' => e = .returned (.tuple #[.int .i64 p, .bool false]) ∧ Below W.heap.size W w' := by
          intro W h
          have := bsearch_any out (clean x.name) W VA m vc p h hpart (by omega)
          rw [hany] at this
          exact this
        replace hpart := Aside0.mk hpart
        replace hany := Aside0.mk hany
        generalize hcn : clean x.name = nm at *
        replace hcn := Aside0.mk hcn
        go_wp2_with (first
          | (go_at_call 34; refine cC.mono ?_; rintro e w1 ⟨rfl, hb1⟩; have hbx1 := (hb1.block wr.heap.size (by simp)).trans hbx.out; have hc := cellAll hbx1; have hf := frozenAll hbx1; replace hbx1 := Aside0.mk hbx1; have hR2 := Aside0.mk (Kd.R_below hR1.out hb1); have hRA2 := Aside0.mk (hRA1.out.below hb1); have hs1 := hb1.size; rw [show (wr.alloc (.cells #[.string x.name, .int .i64 x.value.kind, .bool x.value.truth, .bool x.value.neg, .string x.value.digits, .int .i64 x.value.exp, .string x.value.text, .slice A6 x.value.list.length c6, .slice A7 x.value.fields.length c7] 69)).heap.size = wr.heap.size + 1 by simp] at hs1)
          | (go_at_call 69; refine (cS _ (R_C hR2.out)).mono ?_; rintro e w2 ⟨rfl, hb2⟩; clear hc hf; have hbx2 := (hb2.block wr.heap.size (by omega)).trans hbx1.out; have hc := cellAll hbx2; have hf := frozenAll hbx2; replace hbx2 := Aside0.mk hbx2; have hR3 := Aside0.mk (Kd.R_below hR2.out hb2); have hRA3 := Aside0.mk (hRA2.out.below hb2); have hs2 := hb2.size)
          | (go_at_call 9; refine (hnx.out _ _ (kV.K_below hb2 (kV.K_below hb1 hK3.out)) ((hF3.out.below hb1).below (hb2)) (by omega) hix).mono ?_; rintro e w3 ⟨cs', S1, rfl, hM, hAp, hb3⟩; have hfr := RAF.fresh hRA3.out hAp (by omega); have hRA4 := Aside0.mk (hRA3.out.below hb3); have hS1 := Aside0.mk hfr.1; have hd1 := Aside0.mk hfr.2; have hN1 := Aside0.mk hAp.2.1; clear hfr; obtain ⟨vl, vf, rfl, hRl, hRf⟩ := kV_openM hM; obtain ⟨Al, cl, rfl⟩ := Kd.R_slice hRl; obtain ⟨Af, cf, rfl⟩ := Kd.R_slice hRf; unfold JV.cells at hM hAp; have hA1 := Aside0.mk hAp.1; clear hAp; unfold JV.cells; clear hRl hRf; obtain ⟨inner, hown⟩ := Kd.R_own hR3.out; have hM1 := Aside0.mk (kV.M_lower (base' := w.heap.size) (by omega) (Kd.M_new hM hown)); have hR4 := Aside0.mk (Kd.R_below hR3.out hb3); have hs3 := hb3.size; clear hM hown)
          | (go_at_call 72; refine (insert_newA w.heap.size p (.slice VA m vc) out Se nm x.value.norm [.int .i64 x.value.norm.kind, .bool x.value.norm.truth, .bool x.value.norm.neg, .string x.value.norm.digits, .int .i64 x.value.norm.exp, .string x.value.norm.text, .slice Al x.value.norm.list.length cl, .slice Af x.value.norm.fields.length cf] S1 w3 hRA4.out hM1.out hA1.out hN1.out hS1.out hd1.out (by rw [hm.out]; exact hspot) (by omega) (by rw [hm.out]; exact hol2)).mono ?_; rintro e w4 ⟨v1, Se1, rfl, hR5, hb5⟩))
        go_roundw
        case rel =>
          refine ⟨j + 1, Se1, by go_num, by omega, ?_, (((hB4.out.trans (hb1.mono (by simp; omega))).trans (hb2.mono (by omega))).trans (hb3.mono (by omega))).trans hb5⟩
          rw [hsnoc.out x hx.out, hcn.out, insF_spot hrise, hp, if_neg (by rw [hany.out]; simp)]
          exact hR5
        case measure => simp [intOf]; omega
    · obtain rfl : j = n := by omega
      have hfs : fs.take j = fs := by rw [← hlen.out, List.take_length]
      rw [hfs] at hRA
      replace hRA := Aside0.mk hRA
      clear hCv hol hsnoc hR
      go_wp2_with fail
      go_ret
      exact ⟨_, Se, rfl, hRA.out, hB⟩

theorem norm_leafA (x : JV) (hl : x.norm.list = []) (hf : x.norm.fields = []) : NormOKA x := fun w cs hK hF hwt hin => (norm_any x w cs hK hF hwt hin).mono fun e w' ⟨cs', h1, h2, h3⟩ => by
  generalize x.norm = y at *
  obtain ⟨k, t, n, d, e, s, l, f⟩ := y
  simp only [JV.list, JV.fields] at hl hf
  subst hl hf
  obtain ⟨S, hS⟩ := Apt_leaf k t n d e s h2
  exact ⟨cs', S, h1, h2, hS, h3⟩
theorem normA_step (x : JV) (hl : ∀ y ∈ x.list, NormOKA y) (hf : ∀ f ∈ x.fields, NormOKA f.value) : NormOKA x := by
  obtain ⟨k, t, ng, ds, ex, tx, l, f⟩ := x
  by_cases h4 : k = 4
  · intro w cs hK hF hwt hin
    obtain ⟨A, c, B, d, rfl, hlc, hCl, hfc, hCf⟩ := kV_open hK
    clear hK
    simp only [JV.list, JV.fields] at *
    rw [JV.wt] at hwt
    rw [JV.ints] at hin
    obtain ⟨hik, hie, hil, hif⟩ := hin
    unfold JV.cells
    simp only [JV.kind, JV.truth, JV.neg, JV.digits, JV.exp, JV.text]
    subst h4
    rw [JV.norm, if_neg (by decide), if_neg (by decide), if_neg (by decide), if_pos rfl]
    exact norm_listA w t ng ds tx ex A B _ c _ d hF l hCl hlc hl (by omega) hil
  by_cases h5 : k = 5
  · intro w cs hK hF hwt hin
    obtain ⟨A, c, B, d, rfl, hlc, hCl, hfc, hCf⟩ := kV_open hK
    clear hK
    simp only [JV.list, JV.fields] at *
    rw [JV.wt] at hwt
    rw [JV.ints] at hin
    obtain ⟨hik, hie, hil, hif⟩ := hin
    unfold JV.cells
    simp only [JV.kind, JV.truth, JV.neg, JV.digits, JV.exp, JV.text]
    subst h5
    rw [JV.norm, if_neg (by decide), if_neg (by decide), if_neg (by decide), if_neg (by decide), if_pos rfl]
    exact norm_fieldsA w t ng ds tx ex A B _ c _ d hF f _ hCf hfc (fun W hC hF => fieldsA_any W B _ d f hfc hC hF hf (by omega) hif)
  have h2 : (JV.mk k t ng ds ex tx l f).norm.list = [] ∧ (JV.mk k t ng ds ex tx l f).norm.fields = [] := by
    rw [JV.norm, if_neg h4, if_neg h5]
    split
    · exact ⟨rfl, rfl⟩
    split
    · exact ⟨rfl, rfl⟩
    split
    · exact ⟨rfl, rfl⟩
    · exact ⟨rfl, rfl⟩
  exact norm_leafA _ h2.1 h2.2
theorem normA_all : ∀ (n : Nat) (x : JV), x.wt ≤ n → NormOKA x
  | 0, .mk k t ng ds ex tx l f, h => by rw [JV.wt] at h; omega
  | n + 1, .mk k t ng ds ex tx l f, h => by
    rw [JV.wt] at h
    exact normA_step _ (fun y hy => normA_all n y (by have := wt_memL hy; simp only [JV.list] at this; omega)) (fun g hg => normA_all n _ (by have := wt_memF hg; simp only [JV.fields] at this; omega))
/-- **json.Norm, its rows apart.** -/
theorem normA_any (x : JV) : NormOKA x := normA_all _ x (Nat.le_refl _)
end Go.Proofs.YtkdeleafgailhaaGreatDoor
end
section
set_option linter.unusedVariables false
set_option linter.unusedSimpArgs false
namespace Go.Proofs.YtkdeleafgailhaaGreatDoor
open Go Go.RowKit Go.Proofs.YtkdeleafgailhaaGreatDoorW.PrintWords

def GivesA (w : World) (r : JV × Bool) (e : Ending) (w' : World) : Prop := ∃ cs S, e = .returned (.tuple #[.agg cs.toArray, .bool r.2]) ∧ kV.M w' w.heap.size (fun _ => True) r.1 cs ∧ Apt w' w.heap.size r.1 cs S ∧ Below w.heap.size w w'
theorem gives_nul {w : World} {r : JV × Bool} (h : r.1 = JV.nul) (e : Ending) (w' : World) : Gives w r e w' → GivesA w r e w' := by
  rintro ⟨cs, h1, h2, h3⟩
  rw [h] at h2
  obtain ⟨S, hS⟩ := Apt_leaf 0 false false ⟨#[]⟩ 0 ⟨#[]⟩ h2
  exact ⟨cs, S, h1, by rw [h]; exact h2, by rw [h]; exact hS, h3⟩
theorem Apt_nul (W : World) (base : Nat) : Apt W base JV.nul [.int .i64 0, .bool false, .bool false, .string ⟨#[]⟩, .int .i64 0, .string ⟨#[]⟩, .slice none 0 0, .slice none 0 0] [] := by
  refine ⟨?_, List.nodup_nil, fun k hk => nomatch hk⟩
  unfold JV.nul
  rw [AP]
  exact ⟨.slice none 0 0, .slice none 0 0, [], [], rfl, .inl ⟨rfl, rfl, rfl⟩, .inl ⟨rfl, rfl, rfl⟩, rfl⟩
theorem Apt_sets {W1 : World} {g b : Nat} {x : JV} {cs : List Value} {S : List Nat} {u0 u1 u2 u3 u4 u5 u6 u7 : Value} (h : Apt W1 b x cs S) (hg : g < b) :
    Apt ((((((((W1.setCell ⟨g, 0, none⟩ u0).setCell ⟨g, 1, none⟩ u1).setCell ⟨g, 2, none⟩ u2).setCell ⟨g, 3, none⟩ u3).setCell ⟨g, 4, none⟩ u4).setCell ⟨g, 5, none⟩ u5).setCell ⟨g, 6, none⟩ u6).setCell ⟨g, 7, none⟩ u7) b x cs S :=
  ⟨AP_move x h.1 (fun k hk => heap_sets8 (by have := (h.2.2 k hk).1; omega)), h.2.1, fun k hk => ⟨(h.2.2 k hk).1, by have := (h.2.2 k hk).2; simpa [World.setCell] using this⟩⟩

set_option maxRecDepth 100000 in
set_option maxHeartbeats 4000000 in
theorem at_yesA (w : World) (t ng : Bool) (ds tx : ByteArray) (ex : Int) (A B : Option Addr) (n c m d : Nat) (i : Nat) (xs : List JV) (hn : n ≤ 4294967296) (hnc : n ≤ c) (hC : kV.C w A n xs) (hi : i < n) (hF : Facts w) (hwt : JV.wtL xs ≤ 4294967296) (hin : JV.intsL xs) :
    Calls Tryz.prog 11 #[.agg #[.int .i64 4, .bool t, .bool ng, .string ds, .int .i64 ex, .string tx, .slice A n c, .slice B m d], .int .i64 i] w (GivesA w ((xs.getD i JV.nul).norm, true)) := by
  have hB0 := ((Below.refl _ w).alloc (Nat.le_refl _) (.cells #[.int .i64 4, .bool t, .bool ng, .string ds, .int .i64 ex, .string tx, .slice A n c, .slice B m d] 27)).alloc (by simp) (.cells #[.int .i64 0, .bool false, .bool false, .string ⟨#[]⟩, .int .i64 0, .string ⟨#[]⟩, .slice none 0 0, .slice none 0 0] 27)
  obtain ⟨e0, e1⟩ := boxes' w (.cells #[.int .i64 4, .bool t, .bool ng, .string ds, .int .i64 ex, .string tx, .slice A n c, .slice B m d] 27) (.cells #[.int .i64 0, .bool false, .bool false, .string ⟨#[]⟩, .int .i64 0, .string ⟨#[]⟩, .slice none 0 0, .slice none 0 0] 27)
  have hlen := hC.1
  obtain ⟨ad, x, A6, c6, A7, c7, rfl, hx, hcs, l6, g6, l7, g7⟩ := at_V (Kd.C_below hC hB0) i hi
  have hK := kV_mkK l6 g6 l7 g7
  unfold JV.cells at hcs hK
  obtain ⟨q0, q1, q2, q3, q4, q5, q6, q7, _⟩ := hcs
  have hxm : x ∈ xs := List.mem_of_getElem? hx
  have hwx := wt_memL hxm
  have cN := normA_any x _ _ hK (hF.below hB0) (by omega) (ints_memL hxm hin)
  have hxd : xs.getD i JV.nul = x := by rw [List.getD_eq_getElem?_getD, hx]; rfl
  rw [hxd]
  replace hx := Aside0.mk hx
  replace hB0 := Aside0.mk hB0
  replace e1 := Aside0.mk e1
  clear hC hF hxd hK hlen e0
  go_enter Tryz.func11, Tryz.ntmps11
  go_wp2_with (go_at_call 9; refine cN.mono ?_; rintro e w' ⟨cs', S, rfl, hM, hAp, hb⟩; have hb1 := (hb.block (w.heap.size + 1) (by simp)).trans e1.out; have hc1 := cellAll hb1; have hf1 := frozenAll hb1; clear hb1; obtain ⟨vl, vf, rfl, hRl, hRf⟩ := kV_openM hM; obtain ⟨Al, cl, rfl⟩ := Kd.R_slice hRl; obtain ⟨Af, cf, rfl⟩ := Kd.R_slice hRf; unfold JV.cells at hAp; unfold JV.cells; replace hAp := Aside0.mk hAp; clear hM; replace hRl := Aside0.mk hRl; replace hRf := Aside0.mk hRf)
  refine bodyPost_ret (v := .tuple #[.agg #[.int .i64 x.norm.kind, .bool x.norm.truth, .bool x.norm.neg, .string x.norm.digits, .int .i64 x.norm.exp, .string x.norm.text, .slice Al x.norm.list.length cl, .slice Af x.norm.fields.length cf], .bool true]) (by simp [results, Tryz.results11, go_sem, hc1]) rfl ⟨[.int .i64 x.norm.kind, .bool x.norm.truth, .bool x.norm.neg, .string x.norm.digits, .int .i64 x.norm.exp, .string x.norm.text, .slice Al x.norm.list.length cl, .slice Af x.norm.fields.length cf], S, rfl, ?_, (Apt_sets (g := w.heap.size + 1) hAp.out (by simp)).lower (by simp; omega), ?_⟩
  · exact kV_mkM (x := x.norm) (R_setsV hRl.out (by simp) (by simp; omega)) (R_sets hRf.out (by simp) (by simp; omega))
  · iterate 8 refine below_set ?_ (by omega)
    exact hB0.out.trans (hb.mono (by simp; omega))
/-- **json.At.** -/
theorem atA_any (x : JV) (i : Int) (w : World) (cs : List Value) (hK : kV.K w x cs) (hF : Facts w) (hwt : x.wt ≤ 4294967296) (hin : x.ints) :
    Calls Tryz.prog 11 #[.agg cs.toArray, .int .i64 i] w (GivesA w (x.at_ i)) := by
  obtain ⟨A, c, B, d, rfl, hV⟩ := VC.of hK
  obtain ⟨k, t, ng, ds, ex, tx, l, f⟩ := x
  obtain ⟨_, hlc, hCl, hfc, hCf⟩ := hV
  have hll := wtL_len l
  rw [JV.wt] at hwt
  rw [JV.ints] at hin
  unfold JV.at_
  unfold JV.cells
  simp only [JV.kind, JV.truth, JV.neg, JV.digits, JV.exp, JV.text, JV.list, JV.fields] at *
  unfold atL
  by_cases h : k = 4 ∧ 0 ≤ i ∧ i < (l.length : Int)
  · rw [if_pos h]
    obtain ⟨rfl, h0, h1⟩ := h
    obtain ⟨i, rfl⟩ := Int.eq_ofNat_of_zero_le h0
    exact at_yesA w t ng ds tx ex A B _ c _ d i l (by omega) hlc hCl (by omega) hF (by omega) hin.2.2.1
  · rw [if_neg h]
    exact (at_no w k t ng ds tx ex A B _ c _ d i h).mono (gives_nul (r := (JV.nul, false)) rfl)

set_option maxRecDepth 100000 in
set_option maxHeartbeats 4000000 in
theorem get_inA (w : World) (t ng : Bool) (ds tx : ByteArray) (ex : Int) (A B : Option Addr) (n c m d : Nat) (name : ByteArray) (fs : List JF) (hm : m ≤ 4294967296) (hmd : m ≤ d) (hC : kF.C w B m fs) (hF : Facts w) (hs : name.size ≤ 35184372088832) (hwt : JV.wtF fs ≤ 4294967296) (hin : JV.intsF fs) :
    Calls Tryz.prog 10 #[.agg #[.int .i64 5, .bool t, .bool ng, .string ds, .int .i64 ex, .string tx, .slice A n c, .slice B m d], .string name] w (GivesA w (getF fs (clean name))) := by
  have hB0 := ((Below.refl _ w).alloc (Nat.le_refl _) (.cells #[.int .i64 5, .bool t, .bool ng, .string ds, .int .i64 ex, .string tx, .slice A n c, .slice B m d] 27)).alloc (by simp) (.cells #[.int .i64 0, .bool false, .bool false, .string ⟨#[]⟩, .int .i64 0, .string ⟨#[]⟩, .slice none 0 0, .slice none 0 0] 27)
  obtain ⟨e0, e1⟩ := boxes' w (.cells #[.int .i64 5, .bool t, .bool ng, .string ds, .int .i64 ex, .string tx, .slice A n c, .slice B m d] 27) (.cells #[.int .i64 0, .bool false, .bool false, .string ⟨#[]⟩, .int .i64 0, .string ⟨#[]⟩, .slice none 0 0, .slice none 0 0] 27)
  have hlen := hC.1
  have cC := clean_any name _ hs (hF.below hB0).tabs
  have hs2 : ((w.alloc (.cells #[.int .i64 5, .bool t, .bool ng, .string ds, .int .i64 ex, .string tx, .slice A n c, .slice B m d] 27)).alloc (.cells #[.int .i64 0, .bool false, .bool false, .string ⟨#[]⟩, .int .i64 0, .string ⟨#[]⟩, .slice none 0 0, .slice none 0 0] 27)).heap.size = w.heap.size + 2 := by simp
  generalize clean name = nm at cC ⊢
  replace hlen := Aside0.mk hlen
  replace hB0 := Aside0.mk hB0
  replace e0 := Aside0.mk e0
  replace e1 := Aside0.mk e1
  replace hs2 := Aside0.mk hs2
  go_enter Tryz.func10, Tryz.ntmps10
  go_wp2_with (go_at_call 34; refine cC.mono ?_; rintro e W2 ⟨rfl, hb⟩; rw [hs2.out] at hb; have hb0 := (hb.block w.heap.size (by omega)).trans e0.out; have hc0 := cellAll hb0; have hb1 := (hb.block (w.heap.size + 1) (by omega)).trans e1.out; replace hb1 := Aside0.mk hb1; have hB2 := Aside0.mk (hB0.out.trans (hb.mono (by omega))); have hz2 := hb.size; rw [hs2.out] at hz2; clear hb0 hb)
  go_loopw [17] (fun i wr => ∃ j : Nat, i = .int .i64 j ∧ j ≤ m ∧ Aside0 (∀ f ∈ fs.take j, clean f.name ≠ nm) ∧ Below W2.heap.size W2 wr) (fun i _ => m - (intOf i).toNat)
  case atStart => exact ⟨0, rfl, Nat.zero_le _, ⟨by simp⟩, Below.refl _ _⟩
  case round =>
    obtain ⟨j, rfl, hj, hno, hB⟩ := hrel
    by_cases hlt : j < m
    · obtain ⟨ad, x, A6, c6, A7, c7, rfl, hx, hcs, l6, g6, l7, g7⟩ := at_F (Kd.C_below hC (hB2.out.trans (hB.mono (by have := hB2.out.size; omega)))) j hlt
      have hK := kV_mkK l6 g6 l7 g7
      unfold JV.cells at hcs hK
      obtain ⟨q0, q1, q2, q3, q4, q5, q6, q7, q8, _⟩ := hcs
      have hxm : x ∈ fs := List.mem_of_getElem? hx
      have hwx := wt_memF hxm
      have hix := ints_memF hxm hin
      have hBw := hB2.out.trans (hB.mono (by have := hB2.out.size; omega))
      have hB3 := (Below.refl _ wr).alloc (Nat.le_refl _) (.cells #[.string x.name, .int .i64 x.value.kind, .bool x.value.truth, .bool x.value.neg, .string x.value.digits, .int .i64 x.value.exp, .string x.value.text, .slice A6 x.value.list.length c6, .slice A7 x.value.fields.length c7] 69)
      have hbx := heap_alloc_new wr (.cells #[.string x.name, .int .i64 x.value.kind, .bool x.value.truth, .bool x.value.neg, .string x.value.digits, .int .i64 x.value.exp, .string x.value.text, .slice A6 x.value.list.length c6, .slice A7 x.value.fields.length c7] 69)
      have hF3 := (hF.below hBw).below hB3
      have hK3 := kV.K_below hB3 hK
      have cX := clean_any x.name (wr.alloc (.cells #[.string x.name, .int .i64 x.value.kind, .bool x.value.truth, .bool x.value.neg, .string x.value.digits, .int .i64 x.value.exp, .string x.value.text, .slice A6 x.value.list.length c6, .slice A7 x.value.fields.length c7] 69)) (by omega) hF3.tabs
      have hr1 := (hB.block (w.heap.size + 1) (by omega)).trans hb1.out
      have hB4 := hBw.trans (hB3.mono hBw.size)
      have hnx := normA_any x.value
      have hwz := hB.size
      have hz3 : (wr.alloc (.cells #[.string x.name, .int .i64 x.value.kind, .bool x.value.truth, .bool x.value.neg, .string x.value.digits, .int .i64 x.value.exp, .string x.value.text, .slice A6 x.value.list.length c6, .slice A7 x.value.fields.length c7] 69)).heap.size = wr.heap.size + 1 := by simp
      have hr1' := (heap_alloc_old wr (.cells #[.string x.name, .int .i64 x.value.kind, .bool x.value.truth, .bool x.value.neg, .string x.value.digits, .int .i64 x.value.exp, .string x.value.text, .slice A6 x.value.list.length c6, .slice A7 x.value.fields.length c7] 69) (show w.heap.size + 1 < wr.heap.size by omega)).trans hr1
      replace hr1' := Aside0.mk hr1'
      replace hz3 := Aside0.mk hz3
      replace hx := Aside0.mk hx
      replace hB3 := Aside0.mk hB3
      replace hbx := Aside0.mk hbx
      replace hF3 := Aside0.mk hF3
      replace hK3 := Aside0.mk hK3
      replace hB4 := Aside0.mk hB4
      replace hBw := Aside0.mk hBw
      replace hr1 := Aside0.mk hr1
      replace hnx := Aside0.mk hnx
      clear hxm hK
      by_cases he : clean x.name = nm
      · have hbq : ((clean x.name).toList == nm.toList) = true := by rw [bytes_beq, decide_eq_true he]
        have hgf := Aside0.mk (getF_at hno.out hx.out he)
        clear he
        generalize clean x.name = nm' at cX hbq
        go_wp2_with (first
          | (go_at_call 34; refine cX.mono ?_; rintro e w1 ⟨rfl, hb2⟩; have hb2o := Aside0.mk hb2; rw [hz3.out] at hb2; have hbx1 := (hb2.block wr.heap.size (by omega)).trans hbx.out; have hc := cellAll hbx1; have hf := frozenAll hbx1; have hbz := (hb2.block (w.heap.size + 1) (by omega)).trans hr1'.out; replace hbz := Aside0.mk hbz; have hs1 := hb2.size; rw [hz3.out] at hs1; clear hbx1; replace hb2 := Aside0.mk hb2)
          | (go_at_call 9; refine (hnx.out _ _ (kV.K_below hb2o.out hK3.out) (hF3.out.below hb2o.out) (by omega) hix).mono ?_; rintro e w3 ⟨cs', S, rfl, hM, hAp, hb3⟩; have hbz3 := (hb3.block (w.heap.size + 1) (by omega)).trans hbz.out; have hc3 := cellAll hbz3; have hf3 := frozenAll hbz3; clear hbz3; obtain ⟨vl, vf, rfl, hRl, hRf⟩ := kV_openM hM; obtain ⟨Al, cl, rfl⟩ := Kd.R_slice hRl; obtain ⟨Af, cf, rfl⟩ := Kd.R_slice hRf; unfold JV.cells at hAp; unfold JV.cells; replace hAp := Aside0.mk hAp; clear hM; replace hRl := Aside0.mk hRl; replace hRf := Aside0.mk hRf))
        refine bodyPost_ret (v := .tuple #[.agg #[.int .i64 x.value.norm.kind, .bool x.value.norm.truth, .bool x.value.norm.neg, .string x.value.norm.digits, .int .i64 x.value.norm.exp, .string x.value.norm.text, .slice Al x.value.norm.list.length cl, .slice Af x.value.norm.fields.length cf], .bool true]) (by simp [results, Tryz.results10, go_sem, hc3]) rfl ⟨[.int .i64 x.value.norm.kind, .bool x.value.norm.truth, .bool x.value.norm.neg, .string x.value.norm.digits, .int .i64 x.value.norm.exp, .string x.value.norm.text, .slice Al x.value.norm.list.length cl, .slice Af x.value.norm.fields.length cf], S, by rw [hgf.out], ?_, ?_, ?_⟩
        · rw [hgf.out]
          exact kV_mkM (x := x.value.norm) (R_setsV hRl.out (by omega) (by omega)) (R_sets hRf.out (by omega) (by omega))
        · rw [hgf.out]
          exact (Apt_sets (g := w.heap.size + 1) hAp.out (by omega)).lower (by omega)
        · iterate 8 refine below_set ?_ (by omega)
          exact (hB4.out.trans (hb2.out.mono (by omega))).trans (hb3.mono (by omega))
      · have hbq : ((clean x.name).toList == nm.toList) = false := by rw [bytes_beq, decide_eq_false he]
        replace he := Aside0.mk he
        generalize clean x.name = nm' at cX hbq
        go_wp2_with (go_at_call 34; refine cX.mono ?_; rintro e w1 ⟨rfl, hb2⟩; rw [hz3.out] at hb2; have hs1 := hb2.size; rw [hz3.out] at hs1)
        go_roundw
        case rel =>
          refine ⟨j + 1, by go_num, by omega, ⟨?_⟩, (hB.trans (hB3.out.mono (by omega))).trans (hb2.mono (by omega))⟩
          intro f hf
          have hx2 := hx.out
          rw [List.take_add_one, hx2, Option.toList_some] at hf
          rcases List.mem_append.1 hf with hf | hf
          · exact hno.out f hf
          · rw [List.mem_singleton.1 hf]
            exact he.out
        case measure => simp [intOf]; omega
    · obtain rfl : j = m := by omega
      have hr1 := (hB.block (w.heap.size + 1) (by omega)).trans hb1.out
      have hc3 := cellAll hr1
      have hf3 := frozenAll hr1
      go_wp2_with fail
      have htk : fs.take j = fs := by rw [← hlen.out, List.take_length]
      have hgf := getF_none (fs := fs) (nm := nm) (by have := hno.out; rw [htk] at this; exact this)
      refine bodyPost_ret (v := .tuple #[.agg #[.int .i64 0, .bool false, .bool false, .string ⟨#[]⟩, .int .i64 0, .string ⟨#[]⟩, .slice none 0 0, .slice none 0 0], .bool false]) (by simp [results, Tryz.results10, go_sem, hc3]) rfl ⟨[.int .i64 0, .bool false, .bool false, .string ⟨#[]⟩, .int .i64 0, .string ⟨#[]⟩, .slice none 0 0, .slice none 0 0], [], by rw [hgf], ?_, ?_, ?_⟩
      · rw [hgf]
        exact kV_mkM (x := JV.nul) (R_nilV _ _ _) (R_nilF _ _ _)
      · rw [hgf]
        exact Apt_nul _ _
      · iterate 8 refine below_set ?_ (by omega)
        exact hB2.out.trans (hB.mono (by omega))
/-- **json.Get.** -/
theorem getA_any (x : JV) (name : ByteArray) (w : World) (cs : List Value) (hK : kV.K w x cs) (hF : Facts w) (hs : name.size ≤ 35184372088832) (hwt : x.wt ≤ 4294967296) (hin : x.ints) :
    Calls Tryz.prog 10 #[.agg cs.toArray, .string name] w (GivesA w (x.get_ name)) := by
  obtain ⟨A, c, B, d, rfl, hV⟩ := VC.of hK
  obtain ⟨k, t, ng, ds, ex, tx, l, f⟩ := x
  obtain ⟨_, hlc, hCl, hfc, hCf⟩ := hV
  have hll := wtF_len f
  rw [JV.wt] at hwt
  rw [JV.ints] at hin
  unfold JV.get_
  unfold JV.cells
  simp only [JV.kind, JV.truth, JV.neg, JV.digits, JV.exp, JV.text, JV.list, JV.fields] at *
  unfold getK
  by_cases h : k = 5
  · rw [if_pos h]
    subst h
    exact get_inA w t ng ds tx ex A B _ c _ d name f (by omega) hfc hCf hF hs (by omega) hin.2.2.2
  · rw [if_neg h]
    exact (get_no w k t ng ds tx ex A B _ c _ d name h).mono (gives_nul (r := (JV.nul, false)) rfl)
end Go.Proofs.YtkdeleafgailhaaGreatDoor
end
