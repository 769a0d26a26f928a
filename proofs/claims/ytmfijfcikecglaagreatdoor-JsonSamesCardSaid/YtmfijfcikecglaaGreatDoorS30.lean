/- voyageref02.Lend. voyageref02.told: a text in quotes, byte by byte. What is told with gaps about its brackets, commas and colons is read as what is told without: plain. What JsonGaps's loop makes of a told value is that value told wide: plain. A valid text in quotes, byte by byte, is the same as letter by letter: plain. voyageref01.Text: dec.Text. -/
import Derived.Test.YtmfijfcikecglaaGreatDoorS28
import Derived.Test.YtmfijfcikecglaaGreatDoorS29
import Derived.Test.YtmfijfcikecglaaGreatDoorS23
import Derived.Deep.RegionLaw
import Derived.Test.YtmfijfcikecglaaGreatDoorS25
import Derived.Test.YtmfijfcikecglaaGreatDoorS8
section
set_option linter.unusedVariables false
set_option linter.unusedSimpArgs false
namespace Go.Proofs.YtmfijfcikecglaaGreatDoor
open Go Go.RowKit Go.Proofs.YtmfijfcikecglaaGreatDoorW.PrintWords

/-- A store into what is lent: its V, or its was. -/
theorem Lnt.setP {w0 w W : World} {tb : Nat} {P : Nat → Value} {ok : Nat → Prop} {vl vf : Value} {ls : List (List JV)} {fs : List (List JF)} (h : Lnt w0 w W tb P ok vl vf ls fs) (hw : w.heap[tb]? = none ∨ ∃ cs, w.heap[tb]? = some (.cells cs 36 (0, 0))) (i : Nat) (hi : i < 16) (u : Value) : Lnt w0 w (W.setCell ⟨tb, i, none⟩ u) tb (fun k => if k = i then u else P k) ok vl vf ls fs := by
  have hLE : ∀ q, q ∈ 24 :: kLL.E → q ≠ 36 := fun q hq => by
    have hq' : q ∈ 24 :: 27 :: kV.E := hq
    rcases List.mem_cons.1 hq' with rfl | hq'
    · decide
    · exact (EV_kept (rowV_E hq')).1
  have hFE : ∀ q, q ∈ 25 :: kFF.E → q ≠ 36 := fun q hq => by
    have hq' : q ∈ 25 :: 68 :: kF.E := hq
    rcases List.mem_cons.1 hq' with rfl | hq'
    · decide
    · exact (EV_kept (rowF_E hq')).1
  refine ⟨?_, Kd.R_set h.rl h.blk hLE i u, Kd.R_set h.rf h.blk hFE i u, h.low.setCell h.tbg u, ?_, by rw [World.size_setCell]; exact h.sz, h.tbg, h.w0w⟩
  · rw [blk_set h.blk i u]
    have h16 : ∀ i, i < 16 → (#[P 0, P 1, P 2, P 3, P 4, P 5, P 6, P 7, P 8, P 9, P 10, P 11, P 12, P 13, P 14, P 15, vl, vf] : Array Value).setIfInBounds i u = #[if 0 = i then u else P 0, if 1 = i then u else P 1, if 2 = i then u else P 2, if 3 = i then u else P 3, if 4 = i then u else P 4, if 5 = i then u else P 5, if 6 = i then u else P 6, if 7 = i then u else P 7, if 8 = i then u else P 8, if 9 = i then u else P 9, if 10 = i then u else P 10, if 11 = i then u else P 11, if 12 = i then u else P 12, if 13 = i then u else P 13, if 14 = i then u else P 14, if 15 = i then u else P 15, vl, vf] := by
      intro i hi
      match i, hi with
      | 0, _ => rfl
      | 1, _ => rfl
      | 2, _ => rfl
      | 3, _ => rfl
      | 4, _ => rfl
      | 5, _ => rfl
      | 6, _ => rfl
      | 7, _ => rfl
      | 8, _ => rfl
      | 9, _ => rfl
      | 10, _ => rfl
      | 11, _ => rfl
      | 12, _ => rfl
      | 13, _ => rfl
      | 14, _ => rfl
      | 15, _ => rfl
      | n + 16, h => exact absurd h (by omega)
    rw [h16 i hi]
  · intro b cs q hb h1 h2 h3
    have hne : b ≠ tb := by
      rintro rfl
      rcases hw with hw | ⟨cs', hw⟩
      · rw [hw] at hb; cases hb
      · rw [hw] at hb
        injection hb with hb
        injection hb with _ ht
        exact h1 ht.symm
    rw [Below.heap_setCell W ⟨tb, i, none⟩ u b hne]
    exact h.old b cs q hb h1 h2 h3

set_option maxRecDepth 100000 in
set_option maxHeartbeats 8000000 in
/-- **voyageref02.Lend.** -/
theorem lend_any (x : JV) (w : World) (A B : Option Addr) (c d : Nat) (hK : kV.K w x [.int .i64 x.kind, .bool x.truth, .bool x.neg, .string x.digits, .int .i64 x.exp, .string x.text, .slice A x.list.length c, .slice B x.fields.length d]) (hwt : x.wt ≤ 4294967296) :
    Calls Tryz.prog 11 #[.agg #[.int .i64 x.kind, .bool x.truth, .bool x.neg, .string x.digits, .int .i64 x.exp, .string x.text, .slice A x.list.length c, .slice B x.fields.length d]] w fun e w' => ∃ tb A' B' A2 B2 LA FA c' d' c2 d2 lc fc ls fs, e = .returned (.pointer (some ⟨tb, 0, none⟩)) ∧ LentAt w' tb x A' B' A2 B2 LA FA c' d' c2 d2 lc fc ls fs ∧ Below w.heap.size w w' := by
  have hB1 := (Below.refl w.heap.size w).alloc (Nat.le_refl _) (.cells #[.int .i64 x.kind, .bool x.truth, .bool x.neg, .string x.digits, .int .i64 x.exp, .string x.text, .slice A x.list.length c, .slice B x.fields.length d] 27)
  have f0 := heap_alloc_new w (.cells #[.int .i64 x.kind, .bool x.truth, .bool x.neg, .string x.digits, .int .i64 x.exp, .string x.text, .slice A x.list.length c, .slice B x.fields.length d] 27)
  have hc0 := cellAll f0
  have hK1 := kV.K_below hB1 hK
  replace hK := Aside0.mk hK
  replace hK1 := Aside0.mk hK1
  replace hB1 := Aside0.mk hB1
  replace f0 := Aside0.mk f0
  go_enter Tryz.func11, Tryz.ntmps11
  go_wp2_with (first | (go_at_call 35; refine (marked_any x W2 W3 _ _ _ _ _ [] [] _ hKx.out hL3.out hwt (by simp; omega) (by simp; omega)).mono ?_; rintro e w4 ⟨cs4, vl4, vf4, ls4, fs4, rfl, hM4, hN4, hm4, hf4, hn4, hnf4⟩; obtain ⟨vl5, vf5, rfl, hRl5, hRf5⟩ := kV_openM hM4; unfold JV.cells at hM4; obtain ⟨A4, c4, rfl⟩ := Kd.R_slice hRl5; obtain ⟨B4, d4, rfl⟩ := Kd.R_slice hRf5; unfold JV.cells; replace hRl5 := Aside0.mk hRl5; replace hRf5 := Aside0.mk hRf5; have hb4 := hN4.blk; have hc4 := cellAll hb4; have hff4 := frozenAll hb4; clear hb4; replace hM4 := Aside0.mk hM4; replace hN4 := Aside0.mk hN4; replace hm4 := Aside0.mk hm4; replace hf4 := Aside0.mk hf4) | (go_at_call 34; refine (copied_any x _ _ hK1.out hwt).mono ?_; rintro e W2 ⟨cs2, rfl, hM2, hb2⟩; obtain ⟨vl2, vf2, rfl, hRl2, hRf2⟩ := kV_openM hM2; unfold JV.cells at hM2; obtain ⟨A2, c2, rfl⟩ := Kd.R_slice hRl2; obtain ⟨B2, d2, rfl⟩ := Kd.R_slice hRf2; unfold JV.cells; clear hRl2 hRf2; have hf2 := (hb2.block _ (blk_lt f0.out)).trans f0.out; have hc2 := cellAll hf2; have hBw2 := hB1.out.trans (hb2.mono (by simp)); obtain ⟨W3, hW3⟩ : ∃ W3, W2.alloc (.cells #[.int .i64 0, .bool false, .bool false, .string ⟨#[]⟩, .int .i64 0, .string ⟨#[]⟩, .slice none 0 0, .slice none 0 0, .int .i64 x.kind, .bool x.truth, .bool x.neg, .string x.digits, .int .i64 x.exp, .string x.text, .slice A2 x.list.length c2, .slice B2 x.fields.length d2, .slice none 0 0, .slice none 0 0] 36) = W3 := ⟨_, rfl⟩; have hf3 := heap_alloc_new W2 (.cells #[.int .i64 0, .bool false, .bool false, .string ⟨#[]⟩, .int .i64 0, .string ⟨#[]⟩, .slice none 0 0, .slice none 0 0, .int .i64 x.kind, .bool x.truth, .bool x.neg, .string x.digits, .int .i64 x.exp, .string x.text, .slice A2 x.list.length c2, .slice B2 x.fields.length d2, .slice none 0 0, .slice none 0 0] 36); have hfv3 := (heap_alloc_old W2 (.cells #[.int .i64 0, .bool false, .bool false, .string ⟨#[]⟩, .int .i64 0, .string ⟨#[]⟩, .slice none 0 0, .slice none 0 0, .int .i64 x.kind, .bool x.truth, .bool x.neg, .string x.digits, .int .i64 x.exp, .string x.text, .slice A2 x.list.length c2, .slice B2 x.fields.length d2, .slice none 0 0, .slice none 0 0] 36) (blk_lt hf2)).trans hf2; have hlow3 := (Below.refl W2.heap.size W2).alloc (Nat.le_refl _) (.cells #[.int .i64 0, .bool false, .bool false, .string ⟨#[]⟩, .int .i64 0, .string ⟨#[]⟩, .slice none 0 0, .slice none 0 0, .int .i64 x.kind, .bool x.truth, .bool x.neg, .string x.digits, .int .i64 x.exp, .string x.text, .slice A2 x.list.length c2, .slice B2 x.fields.length d2, .slice none 0 0, .slice none 0 0] 36); rw [hW3] at hf3 hfv3 hlow3; have hcv3 := cellAll hfv3; have hL3 : Lnt W2 W3 W3 W2.heap.size (fun k => ([.int .i64 0, .bool false, .bool false, .string ⟨#[]⟩, .int .i64 0, .string ⟨#[]⟩, .slice none 0 0, .slice none 0 0, .int .i64 x.kind, .bool x.truth, .bool x.neg, .string x.digits, .int .i64 x.exp, .string x.text, .slice A2 x.list.length c2, .slice B2 x.fields.length d2] : List Value).getD k (.bool false)) (fun _ => True) (.slice none 0 0) (.slice none 0 0) [] [] := ⟨hf3, ⟨fun _ _ => trivial, [], own_nil _ _ _ _, Reps.none _ _⟩, ⟨fun _ _ => trivial, [], own_nil _ _ _ _, Reps.none _ _⟩, hlow3, KeptOld.refl _, Nat.le_refl _, Nat.le_refl _, hlow3.size⟩; have hKx := kV.K_below hBw2 hK.out; have hK2 := kV.K_of_M hM2; replace hL3 := Aside0.mk hL3; replace hKx := Aside0.mk hKx; replace hK2 := Aside0.mk hK2; replace hBw2 := Aside0.mk hBw2; clear hM2 hf3 hb2))
  have hw3 : W3.heap[W2.heap.size]? = none ∨ ∃ cs, W3.heap[W2.heap.size]? = some (.cells cs 36 (0, 0)) := .inr ⟨_, hL3.out.blk⟩
  have hlt3 := blk_lt hL3.out.blk
  rw [List.nil_append, List.nil_append] at hN4
  have hN5 := (((((((hN4.out.setP hw3 0 (by decide) (.int .i64 x.kind)).setP hw3 1 (by decide) (.bool x.truth)).setP hw3 2 (by decide) (.bool x.neg)).setP hw3 3 (by decide) (.string x.digits)).setP hw3 4 (by decide) (.int .i64 x.exp)).setP hw3 5 (by decide) (.string x.text)).setP hw3 6 (by decide) (.slice A4 x.list.length c4)).setP hw3 7 (by decide) (.slice B4 x.fields.length d4)
  obtain ⟨LA, lc, hvl, _, hCl⟩ := Kd.R_reads hN5.rl
  obtain ⟨FA, fc, hvf, _, hCf⟩ := Kd.R_reads hN5.rf
  subst hvl hvf
  refine bodyPost_ret (v := .pointer (some ⟨W2.heap.size, 0, none⟩)) (by simp [results, Tryz.results11, go_sem]) rfl ⟨W2.heap.size, A4, B4, A2, B2, LA, FA, c4, d4, c2, d2, lc, fc, ls4, fs4, rfl, ⟨hN5.blk, ?_, kV.K_below hN5.low hK2.out, hCl, hCf, hm4.out, hf4.out, by omega, by omega⟩, hBw2.out.trans (hN5.low.mono hBw2.out.size)⟩
  exact kV.K_of_M (kV_mkM (x := x) (R_setsV (W := W3) (g := W2.heap.size) (base := 0) hRl5.out hlt3 (Nat.zero_le _)) (R_setsG (W := W3) (g := W2.heap.size) (base := 0) hRf5.out hlt3 (Nat.zero_le _)))
end Go.Proofs.YtmfijfcikecglaaGreatDoor
end
section
set_option linter.unusedVariables false
set_option linter.unusedSimpArgs false
namespace Go.Proofs.YtmfijfcikecglaaGreatDoor
open Go Go.RowKit Go.Proofs.YtmfijfcikecglaaGreatDoorW.PrintWords

/-- What is told of one byte. -/
def tb (u : UInt8) : List UInt8 :=
  if u.toNat = 34 ∨ u.toNat = 92 then [92, u] else if u.toNat = 8 then [92, 98] else if u.toNat = 9 then [92, 116] else if u.toNat = 10 then [92, 110] else if u.toNat = 12 then [92, 102] else if u.toNat = 13 then [92, 114]
  else if u.toNat < 32 then [92, 117, 48, 48, hexd (u.toNat / 16), hexd (u.toNat % 16)] else [u]
def tbs : List UInt8 → List UInt8
  | [] => []
  | u :: l => tb u ++ tbs l
theorem tbs_app : ∀ (a b : List UInt8), tbs (a ++ b) = tbs a ++ tbs b
  | [], b => rfl
  | u :: a, b => by rw [List.cons_append, tbs, tbs, tbs_app a b, List.append_assoc]
theorem tb_len (u : UInt8) : (tb u).length ≤ 6 := by
  unfold tb
  repeat' split
  all_goals simp
theorem tbs_len : ∀ (l : List UInt8), (tbs l).length ≤ 6 * l.length
  | [] => by simp [tbs]
  | u :: l => by have := tb_len u; have := tbs_len l; rw [tbs, List.length_append, List.length_cons]; omega
/-- A row that was just laid reads as its bytes. -/
theorem reads_new (W : World) (q : List UInt8) (cs : Array Value) (h : cs = (nums .u8 (nat8 q)).toArray) (hl : q.length ≤ 1000) : ReadsInt (W.alloc (.cells cs 5)) .u8 (some ⟨W.heap.size, 0, none⟩) q.length (nat8 q) := by
  subst h
  have hnew := cellAll (heap_alloc_new W (.cells (nums .u8 (nat8 q)).toArray 5))
  refine ⟨nat8_len q, by omega, fun _ => ⟨_, rfl, fun j hj => ?_⟩⟩
  rw [add_plain, hnew j, List.getElem?_toArray]
  have hj2 : j < (nat8 q).length := by rw [nat8_len]; exact hj
  unfold nums
  rw [List.getElem?_map, List.getElem?_eq_getElem hj2, List.getD_eq_getElem?_getD, List.getElem?_eq_getElem hj2]
  rfl
section
variable {P : Program} {ops : Array Oper} {o : Oper} {a : Act} {Q : Exit → Act → World → Prop} {Kc : Act → World → Prop}
theorem row_append_step {w0 W : World} (base : Nat) (hw : Region.wanted o (yielded ops a.tmps) = true) (s x : Operand) (t e : TypeId) (k : IntKind) (bytes : Nat)
    (ho : o.op = .call { callee := .builtin .append, args := #[s, x], argTypes := #[t, t] })
    (ht : P.underlying t = some (.slice e)) (hinfo : (P.info? e).map (fun i => (i.zero, i.size, i.bytes)) = some (some (.int k 0), 1, bytes)) (hb0 : 0 < bytes)
    (v : Value) (xs ys : List Int) (ad : Addr) (m c : Nat) (hs : a.eval s = v) (hx : a.eval x = .slice (some ad) m c)
    (HO : W.ownsRow base e 1 v xs.length (nums k xs)) (HR : ReadsInt W k (some ad) m ys) (HB : Below base w0 W) (hbase : base ≤ W.heap.size) (hl : (xs.length + m) * bytes ≤ 140737488355328)
    (h : ∀ v1 w1, w1.ownsRow base e 1 v1 (xs ++ ys).length (nums k (xs ++ ys)) → Below base w0 w1 → W.grownBy w1 v.ownBlock → Kc (a.put o.dst v1) w1) :
    if Region.wanted o (yielded ops a.tmps) = true then Oper.wp P o a W Kc Q else Kc (a.put o.dst undef) W := by
  obtain ⟨i0, hi, hzz⟩ := Option.map_eq_some_iff.1 hinfo
  simp only [Prod.mk.injEq] at hzz
  obtain ⟨hz0, hz1, hz2⟩ := hzz
  have hm : ys.length = m := HR.1
  have hlen : xs.length + m ≤ 140737488355328 := Nat.le_trans (Nat.le_mul_of_pos_right _ hb0) hl
  have hcells : ∀ j u, (nums k ys)[j]? = some u → W.cell? (ad.add j) = some u := by
    intro j u hu
    have hj : j < ys.length := by
      rcases Nat.lt_or_ge j ys.length with h | h
      · exact h
      · simp [nums, List.getElem?_eq_none h] at hu
    obtain ⟨ad', h', hc⟩ := HR.2.2 (by omega)
    injection h' with h'
    subst h'
    have := hc j (by omega)
    simp [nums, List.getElem?_eq_getElem hj] at hu
    subst hu
    rw [this]
    simp [List.getD_eq_getElem?_getD, List.getElem?_eq_getElem hj]
  obtain ⟨v1, w1, hr, h2, h3, _, h5⟩ := run_append_own_at (P := P) W base t o.type e i0 (.int k 0) 1 bytes ht hi hz0 hz1 hz2 rfl (by omega) v xs.length (nums k xs) HO ad m c (nums k ys) (by simp [nums, hm]) hcells
    (by intro u hu; simp only [nums, List.mem_map] at hu; obtain ⟨q, _, rfl⟩ := hu; rfl) (by simp only [maxLen]; omega) hl hbase
  rw [if_pos hw]
  unfold Oper.wp execOp
  simp only [ho, resolve, invoke, builtin, Sem.run_bind, Sem.run_pure, Result.andThen_ok, List.map_toArray, List.map_cons, List.map_nil, hs, hx, hr]
  exact h v1 w1 (by simpa [nums, hm] using h2) (HB.grown h3 hbase (own_base HO)) h3
end
theorem hex_at (m : Nat) (hm : m < 16) : ∀ h, ((⟨#[48, 49, 50, 51, 52, 53, 54, 55, 56, 57, 97, 98, 99, 100, 101, 102]⟩ : ByteArray)[m]'h) = hexd m := by
  have key : ∀ k : Fin 16, ∀ h, ((⟨#[48, 49, 50, 51, 52, 53, 54, 55, 56, 57, 97, 98, 99, 100, 101, 102]⟩ : ByteArray)[k.val]'h) = hexd k.val := by decide +kernel
  exact key ⟨m, hm⟩

set_option maxRecDepth 100000 in
set_option maxHeartbeats 8000000 in
theorem told02_any (s : ByteArray) (w : World) (hs : s.size ≤ 1099511627776) :
    Calls Tryz.prog 63 #[.string s] w fun e w' => e = .returned (.string ⟨(34 :: (tbs s.data.toList ++ [34])).toArray⟩) ∧ Below w.heap.size w w' := by
  have hb0 := (Below.refl w.heap.size w).alloc (Nat.le_refl _) (.cells #[.int .u8 34] 5)
  have hown0 : (w.alloc (.cells #[.int .u8 34] 5)).ownsRow w.heap.size 5 1 (.slice (some ⟨w.heap.size, 0, none⟩) 1 1) (nat8 [34]).length (nums .u8 (nat8 [34])) := by
    have hnew := heap_alloc_new w (.cells #[.int .u8 34] 5)
    exact ⟨rfl, .inr ⟨w.heap.size, 1, _, rfl, Nat.le_refl _, hnew, by decide, by decide, rfl, rfl⟩⟩
  replace hb0 := Aside0.mk hb0
  replace hown0 := Aside0.mk hown0
  go_enter Tryz.func63, Tryz.ntmps63
  go_wp2_with fail
  go_loopw [4, 5] (fun v i wr => ∃ (j : Nat) (L : List UInt8), i = .int .i64 j ∧ j ≤ s.size ∧ L.length ≤ 1 + 6 * j ∧ wr.ownsRow w.heap.size 5 1 v (nat8 L).length (nums .u8 (nat8 L)) ∧ Below w.heap.size w wr ∧ Aside0 (34 :: tbs (s.data.toList.take j) = L)) (fun _ i _ => s.size - (intOf i).toNat)
  case atStart => exact ⟨0, [34], rfl, Nat.zero_le _, by simp, hown0.out, hb0.out, ⟨rfl⟩⟩
  case round =>
    obtain ⟨j, L, rfl, hj, hLl, hown, hB, hA⟩ := hrel
    by_cases hlt : j < s.size
    · have hlt2 : (j : Int) < (s.size : Int) := by omega
      obtain ⟨u, hu⟩ : ∃ u, (s[j]'hlt) = u := ⟨_, rfl⟩
      have hb : (s[j]'hlt).toNat = u.toNat := by rw [hu]
      have hstep : Aside0 (34 :: tbs (s.data.toList.take (j + 1)) = 34 :: tbs (s.data.toList.take j) ++ tb u) := ⟨by
        have hjl : j < s.data.toList.length := by rw [Array.length_toList]; exact hlt
        rw [List.take_add_one, List.getElem?_eq_getElem hjl, Option.toList_some, tbs_app]
        have : s.data.toList[j] = u := by rw [← hu]; rfl
        rw [this, tbs, tbs, List.append_nil]; rfl⟩
      have hu256 := u.toNat_lt
      have hnum : ∀ c : Nat, u.toNat = c → c < 256 → u = UInt8.ofNat c := fun c h hc => by apply UInt8.toNat_inj.1; simp [h]; omega
      clear hu
      by_cases h34 : u.toNat = 34
      · have hu0 := hnum 34 h34 (by decide)
        have ht : tb u = [92, 34] := by rw [hu0]; decide
        rw [h34] at hb
        clear hu0 hnum
        have hbn := (Below.refl wr.heap.size wr).alloc (Nat.le_refl _) (.cells #[.int .u8 92, .int .u8 34] 5)
        have hRI := reads_new wr [92, 34] #[.int .u8 92, .int .u8 34] rfl (by simp)
        go_wp2_with ((with_reducible refine gate_builtin (b := .append) (xs := #[.tmp 38, .tmp 40]) rfl ?_); at_builtin; refine print_append_row (w0 := w) w.heap.size rfl (.tmp 38) (.tmp 40) 55 5 .u8 1 rfl Tryz.underlying55 (by kernel_rfl) (by decide) _ (nat8 L) (nat8 [92, 34]) _ 2 2 rfl rfl (pw_own_below hown hbn) hRI (hB.trans (hbn.mono hB.size)) (by have := hB.size; have := hbn.size; omega) (by rw [nat8_len]; omega) ?_; intro v1 w1 hown1 hB1 _ _; rw [← nat8_app] at hown1)
        go_roundw
        case rel => exact ⟨j + 1, L ++ [92, 34], by go_num, by omega, by rw [List.length_append]; simp only [List.length_cons, List.length_nil]; omega, hown1, hB1, ⟨by rw [hstep.out, ← hA.out, ht]⟩⟩
        case measure => simp [intOf]; omega
      by_cases h92 : u.toNat = 92
      · have hu0 := hnum 92 h92 (by decide)
        have ht : tb u = [92, 92] := by rw [hu0]; decide
        rw [h92] at hb
        clear hu0 hnum
        have hbn := (Below.refl wr.heap.size wr).alloc (Nat.le_refl _) (.cells #[.int .u8 92, .int .u8 92] 5)
        have hRI := reads_new wr [92, 92] #[.int .u8 92, .int .u8 92] rfl (by simp)
        go_wp2_with ((with_reducible refine gate_builtin (b := .append) (xs := #[.tmp 38, .tmp 40]) rfl ?_); at_builtin; refine print_append_row (w0 := w) w.heap.size rfl (.tmp 38) (.tmp 40) 55 5 .u8 1 rfl Tryz.underlying55 (by kernel_rfl) (by decide) _ (nat8 L) (nat8 [92, 92]) _ 2 2 rfl rfl (pw_own_below hown hbn) hRI (hB.trans (hbn.mono hB.size)) (by have := hB.size; have := hbn.size; omega) (by rw [nat8_len]; omega) ?_; intro v1 w1 hown1 hB1 _ _; rw [← nat8_app] at hown1)
        go_roundw
        case rel => exact ⟨j + 1, L ++ [92, 92], by go_num, by omega, by rw [List.length_append]; simp only [List.length_cons, List.length_nil]; omega, hown1, hB1, ⟨by rw [hstep.out, ← hA.out, ht]⟩⟩
        case measure => simp [intOf]; omega
      by_cases h8 : u.toNat = 8
      · have hu0 := hnum 8 h8 (by decide)
        have ht : tb u = [92, 98] := by rw [hu0]; decide
        rw [h8] at hb
        clear hu0 hnum
        have hbn := (Below.refl wr.heap.size wr).alloc (Nat.le_refl _) (.cells #[.int .u8 92, .int .u8 98] 5)
        have hRI := reads_new wr [92, 98] #[.int .u8 92, .int .u8 98] rfl (by simp)
        go_wp2_with ((with_reducible refine gate_builtin (b := .append) (xs := #[.tmp 44, .tmp 45]) rfl ?_); at_builtin; refine print_append_row (w0 := w) w.heap.size rfl (.tmp 44) (.tmp 45) 55 5 .u8 1 rfl Tryz.underlying55 (by kernel_rfl) (by decide) _ (nat8 L) (nat8 [92, 98]) _ 2 2 rfl rfl (pw_own_below hown hbn) hRI (hB.trans (hbn.mono hB.size)) (by have := hB.size; have := hbn.size; omega) (by rw [nat8_len]; omega) ?_; intro v1 w1 hown1 hB1 _ _; rw [← nat8_app] at hown1)
        go_roundw
        case rel => exact ⟨j + 1, L ++ [92, 98], by go_num, by omega, by rw [List.length_append]; simp only [List.length_cons, List.length_nil]; omega, hown1, hB1, ⟨by rw [hstep.out, ← hA.out, ht]⟩⟩
        case measure => simp [intOf]; omega
      by_cases h9 : u.toNat = 9
      · have hu0 := hnum 9 h9 (by decide)
        have ht : tb u = [92, 116] := by rw [hu0]; decide
        rw [h9] at hb
        clear hu0 hnum
        have hbn := (Below.refl wr.heap.size wr).alloc (Nat.le_refl _) (.cells #[.int .u8 92, .int .u8 116] 5)
        have hRI := reads_new wr [92, 116] #[.int .u8 92, .int .u8 116] rfl (by simp)
        go_wp2_with ((with_reducible refine gate_builtin (b := .append) (xs := #[.tmp 49, .tmp 50]) rfl ?_); at_builtin; refine print_append_row (w0 := w) w.heap.size rfl (.tmp 49) (.tmp 50) 55 5 .u8 1 rfl Tryz.underlying55 (by kernel_rfl) (by decide) _ (nat8 L) (nat8 [92, 116]) _ 2 2 rfl rfl (pw_own_below hown hbn) hRI (hB.trans (hbn.mono hB.size)) (by have := hB.size; have := hbn.size; omega) (by rw [nat8_len]; omega) ?_; intro v1 w1 hown1 hB1 _ _; rw [← nat8_app] at hown1)
        go_roundw
        case rel => exact ⟨j + 1, L ++ [92, 116], by go_num, by omega, by rw [List.length_append]; simp only [List.length_cons, List.length_nil]; omega, hown1, hB1, ⟨by rw [hstep.out, ← hA.out, ht]⟩⟩
        case measure => simp [intOf]; omega
      by_cases h10 : u.toNat = 10
      · have hu0 := hnum 10 h10 (by decide)
        have ht : tb u = [92, 110] := by rw [hu0]; decide
        rw [h10] at hb
        clear hu0 hnum
        have hbn := (Below.refl wr.heap.size wr).alloc (Nat.le_refl _) (.cells #[.int .u8 92, .int .u8 110] 5)
        have hRI := reads_new wr [92, 110] #[.int .u8 92, .int .u8 110] rfl (by simp)
        go_wp2_with ((with_reducible refine gate_builtin (b := .append) (xs := #[.tmp 54, .tmp 55]) rfl ?_); at_builtin; refine print_append_row (w0 := w) w.heap.size rfl (.tmp 54) (.tmp 55) 55 5 .u8 1 rfl Tryz.underlying55 (by kernel_rfl) (by decide) _ (nat8 L) (nat8 [92, 110]) _ 2 2 rfl rfl (pw_own_below hown hbn) hRI (hB.trans (hbn.mono hB.size)) (by have := hB.size; have := hbn.size; omega) (by rw [nat8_len]; omega) ?_; intro v1 w1 hown1 hB1 _ _; rw [← nat8_app] at hown1)
        go_roundw
        case rel => exact ⟨j + 1, L ++ [92, 110], by go_num, by omega, by rw [List.length_append]; simp only [List.length_cons, List.length_nil]; omega, hown1, hB1, ⟨by rw [hstep.out, ← hA.out, ht]⟩⟩
        case measure => simp [intOf]; omega
      by_cases h12 : u.toNat = 12
      · have hu0 := hnum 12 h12 (by decide)
        have ht : tb u = [92, 102] := by rw [hu0]; decide
        rw [h12] at hb
        clear hu0 hnum
        have hbn := (Below.refl wr.heap.size wr).alloc (Nat.le_refl _) (.cells #[.int .u8 92, .int .u8 102] 5)
        have hRI := reads_new wr [92, 102] #[.int .u8 92, .int .u8 102] rfl (by simp)
        go_wp2_with ((with_reducible refine gate_builtin (b := .append) (xs := #[.tmp 59, .tmp 60]) rfl ?_); at_builtin; refine print_append_row (w0 := w) w.heap.size rfl (.tmp 59) (.tmp 60) 55 5 .u8 1 rfl Tryz.underlying55 (by kernel_rfl) (by decide) _ (nat8 L) (nat8 [92, 102]) _ 2 2 rfl rfl (pw_own_below hown hbn) hRI (hB.trans (hbn.mono hB.size)) (by have := hB.size; have := hbn.size; omega) (by rw [nat8_len]; omega) ?_; intro v1 w1 hown1 hB1 _ _; rw [← nat8_app] at hown1)
        go_roundw
        case rel => exact ⟨j + 1, L ++ [92, 102], by go_num, by omega, by rw [List.length_append]; simp only [List.length_cons, List.length_nil]; omega, hown1, hB1, ⟨by rw [hstep.out, ← hA.out, ht]⟩⟩
        case measure => simp [intOf]; omega
      by_cases h13 : u.toNat = 13
      · have hu0 := hnum 13 h13 (by decide)
        have ht : tb u = [92, 114] := by rw [hu0]; decide
        rw [h13] at hb
        clear hu0 hnum
        have hbn := (Below.refl wr.heap.size wr).alloc (Nat.le_refl _) (.cells #[.int .u8 92, .int .u8 114] 5)
        have hRI := reads_new wr [92, 114] #[.int .u8 92, .int .u8 114] rfl (by simp)
        go_wp2_with ((with_reducible refine gate_builtin (b := .append) (xs := #[.tmp 64, .tmp 65]) rfl ?_); at_builtin; refine print_append_row (w0 := w) w.heap.size rfl (.tmp 64) (.tmp 65) 55 5 .u8 1 rfl Tryz.underlying55 (by kernel_rfl) (by decide) _ (nat8 L) (nat8 [92, 114]) _ 2 2 rfl rfl (pw_own_below hown hbn) hRI (hB.trans (hbn.mono hB.size)) (by have := hB.size; have := hbn.size; omega) (by rw [nat8_len]; omega) ?_; intro v1 w1 hown1 hB1 _ _; rw [← nat8_app] at hown1)
        go_roundw
        case rel => exact ⟨j + 1, L ++ [92, 114], by go_num, by omega, by rw [List.length_append]; simp only [List.length_cons, List.length_nil]; omega, hown1, hB1, ⟨by rw [hstep.out, ← hA.out, ht]⟩⟩
        case measure => simp [intOf]; omega
      have huu : (nat8 [u]) = [(u.toNat : Int)] := rfl
      have e34 : ((u.toNat : Int) == 34) = false := by rw [beq_eq_false_iff_ne]; omega
      have e92 : ((u.toNat : Int) == 92) = false := by rw [beq_eq_false_iff_ne]; omega
      have e8 : ((u.toNat : Int) == 8) = false := by rw [beq_eq_false_iff_ne]; omega
      have e9 : ((u.toNat : Int) == 9) = false := by rw [beq_eq_false_iff_ne]; omega
      have e10 : ((u.toNat : Int) == 10) = false := by rw [beq_eq_false_iff_ne]; omega
      have e12 : ((u.toNat : Int) == 12) = false := by rw [beq_eq_false_iff_ne]; omega
      have e13 : ((u.toNat : Int) == 13) = false := by rw [beq_eq_false_iff_ne]; omega
      by_cases h32 : u.toNat < 32
      · have ht : tb u = [92, 117, 48, 48, hexd (u.toNat / 16), hexd (u.toNat % 16)] := by
          unfold tb
          rw [if_neg (by omega), if_neg h8, if_neg h9, if_neg h10, if_neg h12, if_neg h13, if_pos h32]
        have h322 : (u.toNat : Int) < 32 := by omega
        clear hnum huu
        generalize u.toNat = un at *
        obtain ⟨m1, hm1⟩ : ∃ m1, un / 16 = m1 := ⟨_, rfl⟩
        obtain ⟨m2, hm2⟩ : ∃ m2, un % 16 = m2 := ⟨_, rfl⟩
        have hd1 : IntKind.u8.wrap ((un : Int) / 16) = (m1 : Int) := by rw [IntKind.wrap_u8]; omega
        have hd2 : (un : Int) % 16 = (m2 : Int) := by omega
        have hl1 : (m1 : Int) < 16 := by omega
        have hl2 : (m2 : Int) < 16 := by omega
        have hv1 := hex_at m1 (by omega)
        have hv2 := hex_at m2 (by omega)
        rw [hm1, hm2] at ht
        replace hm1 := Aside0.mk hm1
        replace hm2 := Aside0.mk hm2
        have hd3 : (un : Int).tmod 16 = (m2 : Int) := by rw [Int.tmod_eq_emod_of_nonneg (by omega)]; omega
        go_wp2_with fail
        have hownd := pw_own_below (w1 := wr.drew) hown (below_drew (Below.refl _ _))
        have hBd := below_drew hB
        have hbn := (Below.refl wr.drew.heap.size wr.drew).alloc (Nat.le_refl _) (.cells #[.int .u8 92, .int .u8 117, .int .u8 48, .int .u8 48, .int .u8 ((hexd m1).toNat : Int), .int .u8 ((hexd m2).toNat : Int)] 5)
        have hRI := reads_new wr.drew [92, 117, 48, 48, hexd m1, hexd m2] #[.int .u8 92, .int .u8 117, .int .u8 48, .int .u8 48, .int .u8 ((hexd m1).toNat : Int), .int .u8 ((hexd m2).toNat : Int)] rfl (by simp)
        have hBs := hB.size
        clear hown hB
        go_region_law (refine row_append_step (w0 := w) w.heap.size (by rfl) (.tmp 20) (.tmp 29) 55 5 .u8 1 (by rfl) Tryz.underlying55 (by kernel_rfl) (by decide) _ (nat8 L) (nat8 [92, 117, 48, 48, hexd m1, hexd m2]) _ 6 6 (by rfl) (by rfl) (pw_own_below hownd hbn) hRI (hBd.trans (hbn.mono hBs)) (by simp; omega) (by rw [nat8_len]; omega) ?_; intro v1 w1 hown1 hB1 _; rw [← nat8_app] at hown1)
        all_goals (go_wp2_with fail)
        all_goals go_roundw
        all_goals (try (case measure => simp [intOf]; omega))
        all_goals (exact ⟨j + 1, L ++ [92, 117, 48, 48, hexd m1, hexd m2], by go_num, by omega, by rw [List.length_append]; simp only [List.length_cons, List.length_nil]; omega, hown1, hB1, ⟨by rw [hstep.out, ← hA.out, ht]⟩⟩)
      · have ht : tb u = [u] := by
          unfold tb
          rw [if_neg (by omega), if_neg h8, if_neg h9, if_neg h10, if_neg h12, if_neg h13, if_neg h32]
        have h322 : ¬ (u.toNat : Int) < 32 := by omega
        clear hnum
        have hbn := (Below.refl wr.heap.size wr).alloc (Nat.le_refl _) (.cells #[.int .u8 (u.toNat : Int)] 5)
        have hRI := reads_new wr [u] #[.int .u8 (u.toNat : Int)] rfl (by simp)
        go_wp2_with ((with_reducible refine gate_builtin (b := .append) (xs := #[.tmp 31, .tmp 33]) rfl ?_); at_builtin; refine print_append_row (w0 := w) w.heap.size rfl (.tmp 31) (.tmp 33) 55 5 .u8 1 rfl Tryz.underlying55 (by kernel_rfl) (by decide) _ (nat8 L) (nat8 [u]) _ 1 1 rfl rfl (pw_own_below hown hbn) hRI (hB.trans (hbn.mono hB.size)) (by have := hB.size; have := hbn.size; omega) (by rw [nat8_len]; omega) ?_; intro v1 w1 hown1 hB1 _ _; rw [← nat8_app] at hown1)
        go_roundw
        case rel => exact ⟨j + 1, L ++ [u], by go_num, by omega, by rw [List.length_append]; simp only [List.length_cons, List.length_nil]; omega, hown1, hB1, ⟨by rw [hstep.out, ← hA.out, ht]⟩⟩
        case measure => simp [intOf]; omega
    · obtain rfl : j = s.size := by omega
      have hlt2 : decide ((s.size : Int) < (s.size : Int)) = false := by simp
      have hbn := (Below.refl wr.heap.size wr).alloc (Nat.le_refl _) (.cells #[.int .u8 34] 5)
      have hRI := reads_new wr [34] #[.int .u8 34] rfl (by decide)
      have hend : Aside0 (strOfNums (nat8 (L ++ [34])) = ⟨(34 :: (tbs s.data.toList ++ [34])).toArray⟩) := ⟨by
        have h1 := hA.out
        rw [List.take_of_length_le (by rw [Array.length_toList]; exact Nat.le_refl _)] at h1
        rw [← h1]
        exact strOf_back _⟩
      go_wp2_with ((with_reducible refine gate_builtin (b := .append) (xs := #[.tmp 67, .tmp 68]) rfl ?_); at_builtin; refine print_append_row (w0 := w) w.heap.size rfl (.tmp 67) (.tmp 68) 55 5 .u8 1 rfl Tryz.underlying55 (by kernel_rfl) (by decide) _ (nat8 L) (nat8 [34]) _ 1 1 rfl rfl (pw_own_below hown hbn) hRI (hB.trans (hbn.mono hB.size)) (by have := hB.size; have := hbn.size; omega) (by rw [nat8_len]; omega) ?_; intro v1 w1 hown1 hB1 _ _; rw [← nat8_app] at hown1; have hcv := own_string (P := Tryz.prog) (src := 55) (dst := 9) (w := w1) (e' := 5) (e := 5) (base := w.heap.size) Tryz.underlying55 Tryz.underlying5 Tryz.underlying9 hown1)
      go_ret
      have he2 := hend.out
      refine ⟨?_, hB1⟩
      show Ending.returned (.string (strOfNums (nat8 (L ++ [34])))) = _
      rw [he2]
end Go.Proofs.YtmfijfcikecglaaGreatDoor
end
section
set_option linter.unusedVariables false
set_option linter.unusedSimpArgs false
namespace Go.Proofs.YtmfijfcikecglaaGreatDoor
open Go Go.RowKit

/-- A row of blanks. -/
def Gaps (g : List UInt8) : Prop := ∀ c ∈ g, isGap c.toNat = true
mutual
/-- A value told, gaps within. -/
inductive Wide : JV → List UInt8 → Prop
  | one (x : JV) : x.kind ≠ 4 → x.kind ≠ 5 → Wide x x.put
  | list (k : Int) (t n : Bool) (d : ByteArray) (e : Int) (s : ByteArray) (l : List JV) (f : List JF) (q : List UInt8) : k = 4 → WideL l q → Wide (.mk k t n d e s l f) (91 :: q)
  | obj (k : Int) (t n : Bool) (d : ByteArray) (e : Int) (s : ByteArray) (l : List JV) (f : List JF) (q : List UInt8) : k = 5 → WideO f q → Wide (.mk k t n d e s l f) (123 :: q)
/-- What stands behind a list's bracket or comma. -/
inductive WideL : List JV → List UInt8 → Prop
  | nil (g : List UInt8) : Gaps g → WideL [] (g ++ [93])
  | cons (g : List UInt8) (x : JV) (xs : List JV) (q r : List UInt8) : Gaps g → Wide x q → RestL xs r → WideL (x :: xs) (g ++ (q ++ r))
/-- What stands behind an element. -/
inductive RestL : List JV → List UInt8 → Prop
  | nil (g : List UInt8) : Gaps g → RestL [] (g ++ [93])
  | cons (g : List UInt8) (x : JV) (xs : List JV) (q : List UInt8) : Gaps g → WideL (x :: xs) q → RestL (x :: xs) (g ++ 44 :: q)
inductive WideO : List JF → List UInt8 → Prop
  | nil (g : List UInt8) : Gaps g → WideO [] (g ++ [125])
  | cons (g : List UInt8) (nm : ByteArray) (v : JV) (fs : List JF) (g1 g2 q r : List UInt8) : Gaps g → Gaps g1 → Gaps g2 → Wide v q → RestO fs r → WideO (.mk nm v :: fs) (g ++ (quoted nm ++ (g1 ++ 58 :: (g2 ++ (q ++ r)))))
inductive RestO : List JF → List UInt8 → Prop
  | nil (g : List UInt8) : Gaps g → RestO [] (g ++ [125])
  | cons (g : List UInt8) (f : JF) (fs : List JF) (q : List UInt8) : Gaps g → WideO (f :: fs) q → RestO (f :: fs) (g ++ 44 :: q)
end

/-! ### the whole text -/
end Go.Proofs.YtmfijfcikecglaaGreatDoor
end
section
set_option linter.unusedVariables false
set_option linter.unusedSimpArgs false
namespace Go.Proofs.YtmfijfcikecglaaGreatDoor
open Go Go.RowKit

section
variable {n : Nat} {G H : Nat → List UInt8}
/-! ### texts -/
/-! ### values -/
end
end Go.Proofs.YtmfijfcikecglaaGreatDoor
end
section
set_option linter.unusedVariables false
set_option linter.unusedSimpArgs false
namespace Go.Proofs.YtmfijfcikecglaaGreatDoor
open Go Go.RowKit

theorem tbs_plain : ∀ (l : List UInt8), (∀ c ∈ l, 128 ≤ c.toNat) → tbs l = l
  | [], _ => rfl
  | u :: l, h => by
    have hu := h u (.head _)
    rw [tbs, tbs_plain l (fun c hc => h c (.tail _ hc))]
    unfold tb
    rw [if_neg (by omega), if_neg (by omega), if_neg (by omega), if_neg (by omega), if_neg (by omega), if_neg (by omega), if_neg (by omega)]
    rfl
theorem quoteRune_low : ∀ r : Fin 128, quoteRune r.val = tbs (Lib.encodeRune ((r.val : Nat) : Int)) := by decide +kernel
theorem enc_128 (r : Int) (h : 128 ≤ r) : ∀ c ∈ Lib.encodeRune r, 128 ≤ c.toNat := by
  intro c hc
  unfold Lib.encodeRune at hc
  obtain ⟨x, hx, rfl⟩ := List.mem_map.1 hc
  have hb := Lib.encodeRuneZ_byte r x hx
  rw [bytes_nat x hb]
  unfold Lib.encodeRuneZ at hx
  split at hx
  · omega
  · split at hx
    · simp at hx; omega
    · split at hx
      · simp at hx; omega
      · split at hx
        · simp at hx; omega
        · simp at hx; omega
theorem quoteRune_tbs (r : Nat) : quoteRune r = tbs (Lib.encodeRune (r : Int)) := by
  by_cases h : r < 128
  · exact quoteRune_low ⟨r, h⟩
  · rw [quoteRune_plain (by omega) (by omega) (by omega), tbs_plain _ (enc_128 _ (by omega))]
theorem quoteFrom_tbs (t : ByteArray) : ∀ (fuel pos : Nat), t.size ≤ pos + fuel → pos ≤ t.size → Lib.validD (t.data.toList.drop pos) = true → quoteFrom t fuel pos = tbs (t.data.toList.drop pos)
  | fuel, pos, hf, hp, hv => by
    by_cases hpos : pos < t.size
    · obtain ⟨fuel, rfl⟩ : ∃ m, fuel = m + 1 := ⟨fuel - 1, by omega⟩
      rw [quoteFrom, if_pos hpos, decode_drop]
      have hlen : (t.data.toList.drop pos).length = t.size - pos := by rw [List.length_drop, Array.length_toList]; rfl
      have hne : t.data.toList.drop pos ≠ [] := by
        intro e
        rw [e] at hlen
        simp at hlen
        omega
      rw [Lib.validD_step _ hne] at hv
      have hgood : ¬ ((Lib.decodeL (t.data.toList.drop pos)).1 = 65533 ∧ (Lib.decodeL (t.data.toList.drop pos)).2 = 1) := by
        intro hb; rw [if_pos hb] at hv; cases hv
      rw [if_neg hgood] at hv
      have henc := Lib.encode_decode _ hne hgood
      have hw : (Lib.decodeL (t.data.toList.drop pos)).2 ≤ t.size - pos ∧ 1 ≤ (Lib.decodeL (t.data.toList.drop pos)).2 := by
        rw [Lib.decodeL_N, ← hlen]
        have h1 := Lib.decodeN_width_le (t.data.toList.drop pos).length ((t.data.toList.drop pos).getD 0 0).toNat ((t.data.toList.drop pos).getD 1 0).toNat ((t.data.toList.drop pos).getD 2 0).toNat ((t.data.toList.drop pos).getD 3 0).toNat (by omega)
        have h2 := decodeN_pos (t.data.toList.drop pos).length ((t.data.toList.drop pos).getD 0 0).toNat ((t.data.toList.drop pos).getD 1 0).toNat ((t.data.toList.drop pos).getD 2 0).toNat ((t.data.toList.drop pos).getD 3 0).toNat
        omega
      rw [quoteRune_tbs, henc, quoteFrom_tbs t fuel (pos + (Lib.decodeL (t.data.toList.drop pos)).2) (by omega) (by omega) (by rw [← List.drop_drop]; exact hv)]
      rw [← tbs_app, ← List.drop_drop, List.take_append_drop]
    · have hd : t.data.toList.drop pos = [] := List.drop_eq_nil_of_le (by rw [Array.length_toList]; show t.size ≤ pos; omega)
      rw [hd]
      cases fuel with
      | zero => rfl
      | succ m => rw [quoteFrom, if_neg hpos]; rfl
theorem quoted_tbs (t : ByteArray) (hv : Lib.validD t.data.toList = true) : quoted t = 34 :: (tbs t.data.toList ++ [34]) := by
  unfold quoted
  rw [quoteFrom_tbs t t.size 0 (by omega) (Nat.zero_le _) (by rw [List.drop_zero]; exact hv), List.drop_zero]
end Go.Proofs.YtmfijfcikecglaaGreatDoor
end
section
set_option linter.unusedVariables false
set_option linter.unusedSimpArgs false
namespace Go.Proofs.YtmfijfcikecglaaGreatDoor
open Go Go.RowKit Go.Proofs.YtmfijfcikecglaaGreatDoorW.PrintWords

set_option maxRecDepth 100000 in
set_option maxHeartbeats 4000000 in
theorem text01_any (neg : Bool) (digits : ByteArray) (exp : Int) (w : World) (hs : digits.size ≤ 4294967296) (he0 : -9223372036854775808 ≤ exp) (he1 : exp ≤ 9223372036854775807) (hF : Facts w) :
    Calls Tryz.prog 62 #[.agg #[.bool neg, .string digits, .int .i64 exp]] w fun e w' => e = .returned (.string ⟨(decText neg digits exp).toArray⟩) ∧ Below w.heap.size w w' := by
  have hB0 := ((Below.refl _ w).alloc (Nat.le_refl _) (.cells #[.bool neg, .string digits, .int .i64 exp] 23))
  have cN := norm01_dec neg digits exp (w.alloc (.cells #[.bool neg, .string digits, .int .i64 exp] 23)) (by omega) he0 he1
  have hDb := decForm_bounds neg digits exp
  unfold decText
  have hDn : (decForm neg digits exp).1 = decNorm neg digits exp := rfl
  rw [hDn] at hDb
  clear hDn
  generalize decNorm neg digits exp = D at cN hDb ⊢
  have hI := fun (W : World) (h : Lib.TabIs Tryz.prog W "internal/strconv.uint64pow10" .u64 Lib.pow10Tab) => Tryz.strconv_Itoa D.exp (by omega) (by omega) W h
  have hIl := Lib.itoa_length_le D.exp (by omega) (by omega)
  have hIs : (⟨(Lib.itoa D.exp).toArray⟩ : ByteArray).size = (Lib.itoa D.exp).length := size_mk _
  have hT : ((⟨(Lib.itoa D.exp).toArray⟩ : ByteArray)).data.toList = Lib.itoa D.exp := rfl
  generalize (⟨(Lib.itoa D.exp).toArray⟩ : ByteArray) = T at hI hIs hT
  rw [← hIs] at hIl
  replace hB0 := Aside0.mk hB0
  have hF0 := Aside0.mk hF
  have hL0 := hDb.1
  clear hF hDb
  by_cases h0 : D.digits.size = 0
  · rw [if_pos h0]
    have hd1 := toList_nil h0
    have hd2 : D.digits.toList.isEmpty = true := by rw [hd1]; rfl
    go_enter Tryz.func62, Tryz.ntmps62
    go_wp2_with (go_at_call 48; refine cN.mono ?_; rintro e w' ⟨rfl, hb⟩; have hL := Aside0.mk (fun o => (hB0.out.trans (hb.mono hB0.out.size)).alloc (hB0.out.trans (hb.mono hB0.out.size)).size o))
    go_ret
    exact ⟨rfl, hL.out _⟩
  · rw [if_neg h0]
    have hd1 := toList_ne h0
    have hd2 : D.digits.toList.isEmpty = false := by simpa using hd1
    have hR : ∀ (R : ByteArray) (L : List UInt8) (w' : World), R.data.toList = L → Below w.heap.size w w' → (Ending.returned (Value.string R) = .returned (.string ⟨L.toArray⟩) ∧ Below w.heap.size w w') := by
      rintro R L w' rfl hb
      exact ⟨by congr, hb⟩
    by_cases hn : D.neg = true
    · rw [if_pos hn]
      by_cases he : D.exp = 0
      · rw [if_pos he]
        have hb1 : (D.exp == 0) = true := by simpa using he
        have hb2 : (D.exp != 0) = false := by simpa using he
        go_enter Tryz.func62, Tryz.ntmps62
        go_wp2_with (go_at_call 48; refine cN.mono ?_; rintro e w' ⟨rfl, hb⟩; have hL := Aside0.mk (fun o => (hB0.out.trans (hb.mono hB0.out.size)).alloc (hB0.out.trans (hb.mono hB0.out.size)).size o))
        go_ret
        exact hR _ _ _ (by simp [ByteArray.data_append]) (hL.out _)
      · rw [if_neg he]
        have hb1 : (D.exp == 0) = false := by simpa using he
        have hb2 : (D.exp != 0) = true := by simpa using he
        go_enter Tryz.func62, Tryz.ntmps62
        go_wp2_with (first
          | (go_at_call 60; refine (hI _ (hF0.out.below (hL.out _)).pow).mono ?_; rintro e w3 ⟨rfl, k, os, rfl⟩)
          | (go_at_call 48; refine cN.mono ?_; rintro e w' ⟨rfl, hb⟩; have hL := Aside0.mk (fun o => (hB0.out.trans (hb.mono hB0.out.size)).alloc (hB0.out.trans (hb.mono hB0.out.size)).size o)))
        go_ret
        exact hR _ _ _ (by simp [ByteArray.data_append, hT]) ((hL.out _).trans (Lib.below_grow _ _ ((hL.out _).size) k os))
    · have hn' : D.neg = false := by simpa using hn
      rw [if_neg hn]
      by_cases he : D.exp = 0
      · rw [if_pos he]
        have hb1 : (D.exp == 0) = true := by simpa using he
        have hb2 : (D.exp != 0) = false := by simpa using he
        go_enter Tryz.func62, Tryz.ntmps62
        go_wp2_with (go_at_call 48; refine cN.mono ?_; rintro e w' ⟨rfl, hb⟩; have hL := Aside0.mk (fun o => (hB0.out.trans (hb.mono hB0.out.size)).alloc (hB0.out.trans (hb.mono hB0.out.size)).size o))
        go_ret
        exact hR _ _ _ (by simp [ByteArray.data_append]) (hL.out _)
      · rw [if_neg he]
        have hb1 : (D.exp == 0) = false := by simpa using he
        have hb2 : (D.exp != 0) = true := by simpa using he
        go_enter Tryz.func62, Tryz.ntmps62
        go_wp2_with (first
          | (go_at_call 60; refine (hI _ (hF0.out.below (hL.out _)).pow).mono ?_; rintro e w3 ⟨rfl, k, os, rfl⟩)
          | (go_at_call 48; refine cN.mono ?_; rintro e w' ⟨rfl, hb⟩; have hL := Aside0.mk (fun o => (hB0.out.trans (hb.mono hB0.out.size)).alloc (hB0.out.trans (hb.mono hB0.out.size)).size o)))
        go_ret
        exact hR _ _ _ (by simp [ByteArray.data_append, hT]) ((hL.out _).trans (Lib.below_grow _ _ ((hL.out _).size) k os))
end Go.Proofs.YtmfijfcikecglaaGreatDoor
end
