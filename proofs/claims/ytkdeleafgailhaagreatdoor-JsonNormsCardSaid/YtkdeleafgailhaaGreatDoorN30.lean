/- (*voyageref02.Lent).marked. (*voyageref02.Lent).marked. -/
import Derived.Test.YtkdeleafgailhaaGreatDoorN27
section
set_option linter.unusedVariables false
set_option linter.unusedSimpArgs false
namespace Go.Proofs.YtkdeleafgailhaaGreatDoor
open Go Go.RowKit Go.Proofs.YtkdeleafgailhaaGreatDoorW.PrintWords

theorem R_open2 {α : Type} {d : Kd α} {e : Nat} {w : World} {base : Nat} {ok : Nat → Prop} {v : Value} {xs : List α} (h : d.R e w base ok v xs) (hp : 0 < xs.length) : ∃ g cap, v = .slice (some ⟨g, 0, none⟩) xs.length cap ∧ base ≤ g ∧ g < w.heap.size ∧ xs.length ≤ cap := by
  obtain ⟨_, inner, ⟨_, ho⟩, _⟩ := h
  rcases ho with ⟨_, h0⟩ | ⟨g, cap, cur, hv, hb, hh, hn, _⟩
  · omega
  · exact ⟨g, cap, hv, hb, blk_lt hh, hn⟩
theorem wtF_one (x : JF) : JV.wtF [x] = 1 + x.name.size + x.value.wt := by
  cases x
  rw [JV.wtF, JV.wtF]
  rfl
theorem R_setsG {W W1 : World} {g base : Nat} {v : Value} {out : List JF} {u0 u1 u2 u3 u4 u5 u6 u7 : Value} (h : kF.R 69 W1 W.heap.size (fun _ => True) v out) (hg : g < W.heap.size) (hb : base ≤ W.heap.size) :
    kF.R 69 ((((((((W1.setCell ⟨g, 0, none⟩ u0).setCell ⟨g, 1, none⟩ u1).setCell ⟨g, 2, none⟩ u2).setCell ⟨g, 3, none⟩ u3).setCell ⟨g, 4, none⟩ u4).setCell ⟨g, 5, none⟩ u5).setCell ⟨g, 6, none⟩ u6).setCell ⟨g, 7, none⟩ u7) base (fun _ => True) v out := by
  refine Kd.R_lower (Kd.R_mono (Kd.R_keep (ok := fun k => W.heap.size ≤ k) (g := g) (Kd.R_mono (Kd.R_bound h) (fun k hk => hk.2.1)) ?_ (fun k hk => by omega)) (fun _ _ => trivial)) hb
  exact ((((((((KeepBut.refl _ _ _).set_ _ _).set_ _ _).set_ _ _).set_ _ _).set_ _ _).set_ _ _).set_ _ _).set_ _ _

set_option maxRecDepth 100000 in
set_option maxHeartbeats 16000000 in
theorem marked_10 (w0 w : World) (tb : Nat) (P : Nat → Value) (ok : Nat → Prop) (vl vf : Value) (ls : List (List JV)) (fs0 : List (List JF)) (k : Int) (t ng : Bool) (ds tx : ByteArray) (ex : Int) (A B : Option Addr) (nl c nf d : Nat) (xs : List JV) (fs : List JF) (hC : kV.C w0 A nl xs) (hCf : kF.C w0 B nf fs) (hN : Lnt w0 w w tb P ok vl vf ls fs0) (hok : ∀ y ∈ xs, MarkOK y) (hokf : ∀ g ∈ fs, MarkOK g.value) (hwt : JV.wtL xs + JV.wtF fs ≤ 4294967295) (hls : ls.length + (JV.wtL xs + JV.wtF fs) < 1099511627776) (hfs : fs0.length + (JV.wtL xs + JV.wtF fs) < 1099511627776) (hL : 0 < nl) (hF : nf = 0) :
    Calls Tryz.prog 32 #[.pointer (some ⟨tb, 0, none⟩), .agg #[.int .i64 k, .bool t, .bool ng, .string ds, .int .i64 ex, .string tx, .slice A nl c, .slice B nf d]] w fun e w' => ∃ cs' vl' vf' ls' fs', e = .returned (.agg cs'.toArray) ∧ kV.M w' w.heap.size (fun _ => True) (.mk k t ng ds ex tx xs fs) cs' ∧ Lnt w0 w w' tb P (fun k => ok k ∨ w.heap.size ≤ k) vl' vf' (ls ++ ls') (fs0 ++ fs') ∧ (∀ l ∈ ls', MkL l ∧ l.length ≤ 140737488355328) ∧ (∀ l ∈ fs', MkF l ∧ l.length ≤ 140737488355328) ∧ ls'.length ≤ 1 + (JV.wtL xs + JV.wtF fs) ∧ fs'.length ≤ 1 + (JV.wtL xs + JV.wtF fs) := by
  subst hF
  have hlenL := hC.1
  have hlenF := hCf.1
  have hllL := wtL_len xs
  have hllF := wtF_len fs
  have hB0 := ((Below.refl w.heap.size w).alloc (Nat.le_refl _) (.cells #[.int .i64 k, .bool t, .bool ng, .string ds, .int .i64 ex, .string tx, .slice A nl c, .slice B 0 d] 27)).alloc (by simp) (.cells #[.int .i64 0, .bool false, .bool false, .string ⟨#[]⟩, .int .i64 0, .string ⟨#[]⟩, .slice none 0 0, .slice none 0 0] 27)
  obtain ⟨e0, e1⟩ := boxes' w (.cells #[.int .i64 k, .bool t, .bool ng, .string ds, .int .i64 ex, .string tx, .slice A nl c, .slice B 0 d] 27) (.cells #[.int .i64 0, .bool false, .bool false, .string ⟨#[]⟩, .int .i64 0, .string ⟨#[]⟩, .slice none 0 0, .slice none 0 0] 27)
  have hl2 : (0 : Int) < (nl : Int) := by omega
  go_enter Tryz.func32, Tryz.ntmps32
  go_wp2_with fail
  obtain ⟨W3, hW3⟩ : ∃ W3, (((w.alloc (.cells #[.int .i64 k, .bool t, .bool ng, .string ds, .int .i64 ex, .string tx, .slice A nl c, .slice B 0 d] 27)).alloc (.cells #[.int .i64 0, .bool false, .bool false, .string ⟨#[]⟩, .int .i64 0, .string ⟨#[]⟩, .slice none 0 0, .slice none 0 0] 27)).alloc (.cells #[.int .i64 k, .bool t, .bool ng, .string ds, .int .i64 ex, .string tx, .slice none 0 0, .slice none 0 0] 27)) = W3 := ⟨_, rfl⟩
  have f2 := heap_alloc_new ((w.alloc (.cells #[.int .i64 k, .bool t, .bool ng, .string ds, .int .i64 ex, .string tx, .slice A nl c, .slice B 0 d] 27)).alloc (.cells #[.int .i64 0, .bool false, .bool false, .string ⟨#[]⟩, .int .i64 0, .string ⟨#[]⟩, .slice none 0 0, .slice none 0 0] 27)) (.cells #[.int .i64 k, .bool t, .bool ng, .string ds, .int .i64 ex, .string tx, .slice none 0 0, .slice none 0 0] 27)
  have f0 := (heap_alloc_old _ (.cells #[.int .i64 k, .bool t, .bool ng, .string ds, .int .i64 ex, .string tx, .slice none 0 0, .slice none 0 0] 27) (blk_lt e0)).trans e0
  have f1 := (heap_alloc_old _ (.cells #[.int .i64 k, .bool t, .bool ng, .string ds, .int .i64 ex, .string tx, .slice none 0 0, .slice none 0 0] 27) (blk_lt e1)).trans e1
  have hB3 := hB0.alloc (by simp; omega) (.cells #[.int .i64 k, .bool t, .bool ng, .string ds, .int .i64 ex, .string tx, .slice none 0 0, .slice none 0 0] 27)
  have hs2 : ((w.alloc (.cells #[.int .i64 k, .bool t, .bool ng, .string ds, .int .i64 ex, .string tx, .slice A nl c, .slice B 0 d] 27)).alloc (.cells #[.int .i64 0, .bool false, .bool false, .string ⟨#[]⟩, .int .i64 0, .string ⟨#[]⟩, .slice none 0 0, .slice none 0 0] 27)).heap.size = w.heap.size + 1 + 1 := by simp
  have hs3 : W3.heap.size = w.heap.size + 3 := by rw [← hW3]; simp
  rw [hs2] at f2
  rw [hW3] at f0 f1 f2 hB3 ⊢
  clear hW3
  have hN3 := (hN.bound.below hB3).mono (ok' := fun k => (ok k ∧ k < w.heap.size) ∨ W3.heap.size ≤ k) (fun k hk => .inl hk)
  have hc0 := cellAll f0
  have hg1 : w.heap.size < W3.heap.size := by omega
  have hg2 : w.heap.size + 1 < W3.heap.size := by omega
  have hg3 : w.heap.size + 1 + 1 < W3.heap.size := by omega
  clear hs2 e0 e1 hB0
  replace hlenL := Aside0.mk hlenL
  replace hlenF := Aside0.mk hlenF
  replace f0 := Aside0.mk f0
  replace f1 := Aside0.mk f1
  replace f2 := Aside0.mk f2
  replace hB3 := Aside0.mk hB3
  replace hN3 := Aside0.mk hN3
  replace hN := Aside0.mk hN
  replace hs3 := Aside0.mk hs3
  have hnl : nl ≤ 4294967296 := by have := hlenL.out; omega
  replace hwt := Aside0.mk hwt
  replace hls := Aside0.mk hls
  replace hfs := Aside0.mk hfs
  go_loopw [6, 7] (fun u6 i wr => ∃ (j : Nat) (vl1 vf1 : Value) (ls1 : List (List JV)) (fs1 : List (List JF)), i = .int .i64 j ∧ j ≤ nl ∧ Lnt w0 w wr tb P (fun k => (fun k => (ok k ∧ k < w.heap.size) ∨ W3.heap.size ≤ k) k ∧ some k ≠ u6.ownBlock) vl1 vf1 (ls ++ ls1) (fs0 ++ fs1) ∧ kV.R 27 wr W3.heap.size (fun _ => True) u6 (xs.take j) ∧ (KeptOld W3 wr ∧ W3.heap.size ≤ wr.heap.size) ∧ (∀ l ∈ ls1, MkL l ∧ l.length ≤ 140737488355328) ∧ (∀ l ∈ fs1, MkF l ∧ l.length ≤ 140737488355328) ∧ ls1.length ≤ JV.wtL (xs.take j) ∧ fs1.length ≤ JV.wtL (xs.take j)) (fun _ i _ => nl - (intOf i).toNat)
  case atStart => exact ⟨0, vl, vf, [], [], rfl, Nat.zero_le _, by rw [List.append_nil, List.append_nil]; exact hN3.out.mono (fun k hk => ⟨hk, by simp [Value.ownBlock]⟩), R_nilV _ _ _, ⟨KeptOld.refl _, Nat.le_refl _⟩, (fun l h => nomatch h), (fun l h => nomatch h), Nat.zero_le _, Nat.zero_le _⟩
  case round =>
    obtain ⟨j, vl1, vf1, ls1, fs1, rfl, hj, hN4, hR4, hk4, hm1, hf1', hn1, hnf1⟩ := hrel
    clear hc0
    have hbf := hk4.1 _ _ _ f0.out (by decide) (by decide) (by decide)
    have hcf := cellAll hbf
    replace hbf := Aside0.mk hbf
    obtain ⟨inner4, hown4⟩ := Kd.R_own hR4
    have hsum : JV.wtL xs = JV.wtL (xs.take j) + JV.wtL (xs.drop j) := by rw [← wtL_app, List.take_append_drop]
    by_cases hlt : j < nl
    · obtain ⟨ad, x, A6, c6, A7, c7, rfl, hx, hcs, l6, g6, l7, g7⟩ := at_V hC j hlt
      have hK := kV_mkK l6 g6 l7 g7
      unfold JV.cells at hcs hK
      obtain ⟨q0, q1, q2, q3, q4, q5, q6, q7, _⟩ := hcs
      have hxm : x ∈ xs := List.mem_of_getElem? hx
      have hwx := wt_memL hxm
      have hoj := hok x hxm
      have hw2 : JV.wtL (xs.take (j + 1)) = JV.wtL (xs.take j) + (1 + x.wt) := by
        rw [List.take_add_one, hx, Option.toList_some, wtL_app, JV.wtL, JV.wtL]; omega
      have hw3 : JV.wtL xs = JV.wtL (xs.take (j + 1)) + JV.wtL (xs.drop (j + 1)) := by rw [← wtL_app, List.take_append_drop]
      have hbw := hN4.low
      obtain ⟨p0, p1, p2, p3, p4, p5, p6, p7⟩ : wr.cell? (ad.add (j * 8)) = some (.int .i64 x.kind) ∧ wr.cell? ⟨(ad.add (j * 8)).block, (ad.add (j * 8)).off + (0 + 1), none⟩ = some (.bool x.truth) ∧ wr.cell? ⟨(ad.add (j * 8)).block, (ad.add (j * 8)).off + (1 + 1), none⟩ = some (.bool x.neg) ∧ wr.cell? ⟨(ad.add (j * 8)).block, (ad.add (j * 8)).off + (2 + 1), none⟩ = some (.string x.digits) ∧ wr.cell? ⟨(ad.add (j * 8)).block, (ad.add (j * 8)).off + (3 + 1), none⟩ = some (.int .i64 x.exp) ∧ wr.cell? ⟨(ad.add (j * 8)).block, (ad.add (j * 8)).off + (4 + 1), none⟩ = some (.string x.text) ∧ wr.cell? ⟨(ad.add (j * 8)).block, (ad.add (j * 8)).off + (5 + 1), none⟩ = some (.slice A6 x.list.length c6) ∧ wr.cell? ⟨(ad.add (j * 8)).block, (ad.add (j * 8)).off + (6 + 1), none⟩ = some (.slice A7 x.fields.length c7) := ⟨pw_cell_below hbw q0, pw_cell_below hbw q1, pw_cell_below hbw q2, pw_cell_below hbw q3, pw_cell_below hbw q4, pw_cell_below hbw q5, pw_cell_below hbw q6, pw_cell_below hbw q7⟩
      have hj0 : (0 : Int) ≤ (j : Int) := by omega
      have hlt2 : (j : Int) < (nl : Int) := by omega
      have htj : (xs.take j).length = j := by rw [List.length_take, hlenL.out]; omega
      replace htj := Aside0.mk htj
      have hbA : Aside0 (x.wt ≤ 4294967296) := ⟨by have := hwt.out; omega⟩
      have hbB : Aside0 ((ls ++ ls1).length + x.wt ≤ 1099511627776) := ⟨by have := hls.out; rw [List.length_append]; omega⟩
      have hbC : Aside0 ((fs0 ++ fs1).length + x.wt ≤ 1099511627776) := ⟨by have := hfs.out; rw [List.length_append]; omega⟩
      have hN4h := Aside0.mk hN4.here
      replace hN4 := Aside0.mk hN4
      replace hR4 := Aside0.mk hR4
      replace hown4 := Aside0.mk hown4
      replace hw2 := Aside0.mk hw2
      replace hw3 := Aside0.mk hw3
      replace hsum := Aside0.mk hsum
      replace hx := Aside0.mk hx
      clear hxm q0 q1 q2 q3 q4 q5 q6 q7
      go_wp2_with (first | ((with_reducible refine gate_builtin (b := .append) (xs := #[.tmp 24, .tmp 32]) rfl ?_); at_builtin; refine Kd.R_append kV (w0 := w4) W3.heap.size rfl (.tmp 24) (.tmp 32) 24 27 zV 112 rfl Tryz.underlying24 infoV rfl (by decide) (by omega) u6 (xs.take j) x [.int .i64 x.kind, .bool x.truth, .bool x.neg, .string x.digits, .int .i64 x.exp, .string x.text, .slice Al x.list.length cl, .slice Af x.fields.length cf] (fun _ => True) _ rfl rfl hM6.out (fun _ hk => hk) (fun _ _ => trivial) hR6.out (Below.refl _ _) hs6 ?aL ?_; (case aL => rw [htj.out]; omega); intro v1 w5 hR7 hB7 hg7 hat7; replace hR7 := Aside0.mk hR7; replace hg7 := Aside0.mk hg7; replace hat7 := Aside0.mk hat7; replace hB7 := Aside0.mk hB7) | (go_at_call 32; refine (hoj w0 _ tb P _ _ _ _ _ _ hK hN4h.out hbA.out hbB.out hbC.out).mono ?_; rintro e w4 ⟨cs', vl2, vf2, ls2, fs2, rfl, hM, hN5, hm2, hf2, hn2, hnf2⟩; obtain ⟨vl8, vf8, rfl, hRl8, hRf8⟩ := kV_openM hM; unfold JV.cells at hM; obtain ⟨Al, cl, rfl⟩ := Kd.R_slice hRl8; obtain ⟨Af, cf, rfl⟩ := Kd.R_slice hRf8; unfold JV.cells; clear hRl8 hRf8; have hN6 := (hN4.out.back hN5).mono (ok' := fun k => (fun k => (ok k ∧ k < w.heap.size) ∨ W3.heap.size ≤ k) k ∧ some k ≠ Value.ownBlock u6) (fun k hk => by rcases hk with hk | hk; exact hk; exact ⟨.inr (by have := hk4.2; omega), fun e => by have := Kd.R_lt hR4.out k e.symm; omega⟩); have hR6 := R_keptV hR4.out hN5.old; have hK6 := hk4.1.trans hN5.old; have hs6 := Nat.le_trans hk4.2 hN5.sz; have hM6 := kV.M_lower (base' := W3.heap.size) hk4.2 (Kd.M_new hM hown4.out); clear hM; replace hM6 := Aside0.mk hM6; replace hN6 := Aside0.mk hN6; replace hR6 := Aside0.mk hR6; replace hN5 := Aside0.mk hN5))
      go_roundw
      case measure => first | (simp [intOf]; done) | (simp [intOf]; omega)
      refine ⟨j + 1, vl2, vf2, ls1 ++ ls2, fs1 ++ fs2, by go_num, by omega, ?_, ?_, ?_, ?_, ?_, ?_, ?_⟩
      · rw [← List.append_assoc, ← List.append_assoc]
        exact hN6.out.grown hg7.out hat7.out (fun k hk => by have := Kd.R_base hR6.out k hk; omega) (hN6.out.tb_ne hR6.out)
      · rw [show xs.take (j + 1) = xs.take j ++ [x] by rw [List.take_add_one, hx.out, Option.toList_some]]
        exact hR7.out
      · exact ⟨hK6.grown hg7.out (fun k hk => Kd.R_base hR6.out k hk) hs6, by have := hg7.out.size; omega⟩
      · exact fun l h => by rcases List.mem_append.1 h with h | h; exact hm1 l h; exact hm2 l h
      · exact fun l h => by rcases List.mem_append.1 h with h | h; exact hf1' l h; exact hf2 l h
      · rw [List.length_append, hw2.out]; omega
      · rw [List.length_append, hw2.out]; omega
    · obtain rfl : j = nl := by omega
      have hall : xs.take j = xs := by rw [← hlenL.out, List.take_length]
      rw [hall] at hR4 hn1 hnf1
      have hno : ¬ (j : Int) < (j : Int) := by omega
      have hl12 : Aside0 ((xs ++ [mk77, mk78]).length = j + 2) := ⟨by rw [List.length_append, hlenL.out]; rfl⟩
      have hlA : Aside0 (((ls ++ ls1).length + 1) * 24 ≤ 140737488355328) := ⟨by have := hls.out; rw [List.length_append]; omega⟩
      have hN4s := Aside0.mk hN4.sz
      have hw0 := Aside0.mk hN4.w0w
      have htbw := blk_lt hN.out.blk
      have htb0 := Aside0.mk hN4.tbg
      replace hN4 := Aside0.mk hN4
      replace hR4 := Aside0.mk hR4
      clear hown4 hsum
      go_wp2_with (first | ((with_reducible refine gate_builtin (b := .append) (xs := #[.tmp 43, .tmp 45]) rfl ?_); at_builtin; refine Kd.R_append kLL (w0 := w5) w0.heap.size rfl (.tmp 43) (.tmp 45) 33 24 zL 24 rfl Tryz.underlying33 infoLV rfl (by decide) (by omega) vl1 (ls ++ ls1) (xs ++ [mk77, mk78]) [.slice (some ⟨g1, 0, none⟩) (j + 2) c1] (fun k => (ok k ∧ k < w.heap.size) ∨ W3.heap.size ≤ k) _ rfl rfl ⟨_, rfl, Kd.R_lower (R_apartL hR7.out hN8.out.rl) (by have := hw0.out; omega)⟩ (fun k hk => ⟨.inr hk.1.2, hk.2⟩) (fun k hk => .inr (by omega)) hN8.out.rl (Below.refl _ _) (by have := hw0.out; omega) hlA.out ?_; intro v2 w6 hR8 hB8 hg8 hat8; obtain ⟨n2, A2, c2, hv2⟩ : ∃ n2 A2 c2, v2 = .slice A2 n2 c2 := (by obtain ⟨A2, c2, hv⟩ := Kd.R_slice hR8; exact ⟨_, A2, c2, hv⟩); subst hv2; have hb8 := blk_grown hN8.out.blk hg8 (fun e => by obtain ⟨inn, ho⟩ := Kd.R_own hN8.out.rl; obtain ⟨cc, hcc⟩ := own_typed ho tb e.symm; rw [hN8.out.blk] at hcc; injection hcc with hcc; injection hcc with _ ht; exact absurd ht (by decide)); have hf8 := frozenAll hb8; have hc8 := cellAll hb8; obtain ⟨W9, hW9⟩ : ∃ W9, w6.setCell ⟨tb, 16, none⟩ (.slice A2 n2 c2) = W9 := ⟨_, rfl⟩; have hnew8 : ∀ k, vl1.ownBlock = some k → w0.heap.size ≤ k := fun k hk => Kd.R_base hN8.out.rl k hk; have hN9 := hN8.out.addL hR8 hg8 hnew8; have hO9 := (hN8.out.here.addL hR8 hg8 hnew8).old; have hz9 := (hN8.out.here.addL hR8 hg8 hnew8).sz; rw [hW9] at hN9 hO9 hz9; have hK9 := hK7.trans hO9; have hb9v := hK9 _ _ _ f0.out (by decide) (by decide) (by decide); have hb9r := hK9 _ _ _ f1.out (by decide) (by decide) (by decide); have hb9x := hK9 _ _ _ f2.out (by decide) (by decide) (by decide); have hc9v := cellAll hb9v; have hc9x := cellAll hb9x; have hf9x := frozenAll hb9x; have hR9 := R_keptV hR7.out hO9; obtain ⟨W10, hW10⟩ : ∃ W10, W9.setCell ⟨w.heap.size + 1 + 1, 6, none⟩ (.slice (some ⟨g1, 0, none⟩) j c1) = W10 := ⟨_, rfl⟩; have hb10v := blk_far hb9v (p := ⟨w.heap.size + 1 + 1, 6, none⟩) (by show w.heap.size ≠ w.heap.size + 1 + 1; omega) (.slice (some ⟨g1, 0, none⟩) j c1); have hb10r := blk_far hb9r (p := ⟨w.heap.size + 1 + 1, 6, none⟩) (by show w.heap.size + 1 ≠ w.heap.size + 1 + 1; omega) (.slice (some ⟨g1, 0, none⟩) j c1); have hb10x := blk_set hb9x 6 (.slice (some ⟨g1, 0, none⟩) j c1); rw [hW10] at hb10v hb10r hb10x; replace hb10x : W10.heap[w.heap.size + 1 + 1]? = some (.cells #[.int .i64 k, .bool t, .bool ng, .string ds, .int .i64 ex, .string tx, .slice (some ⟨g1, 0, none⟩) j c1, .slice none 0 0] 27 (0, 0)) := hb10x; have hc10v := cellAll hb10v; have hc10r := cellAll hb10r; have hf10r := frozenAll hb10r; have hc10x := cellAll hb10x; have hf10x := frozenAll hb10x; replace hN9 := Aside0.mk hN9; replace hR9 := Aside0.mk hR9; replace hO9 := Aside0.mk hO9; replace hb10v := Aside0.mk hb10v; replace hb10r := Aside0.mk hb10r; replace hb10x := Aside0.mk hb10x; clear hb9v hb9r hb9x hb8 hR8 hB8 hg8 hat8 hnew8) | ((with_reducible refine gate_builtin (b := .append) (xs := #[.tmp 34, .tmp 37]) rfl ?_); at_builtin; refine R_append2 kV (w0 := wr) W3.heap.size rfl (.tmp 34) (.tmp 37) 24 27 zV 112 rfl Tryz.underlying24 infoV rfl (by decide) (by omega) u6 xs mk77 mk78 [.int .i64 77, .bool false, .bool false, .string ⟨#[]⟩, .int .i64 0, .string ⟨#[]⟩, .slice none 0 0, .slice none 0 0] [.int .i64 78, .bool false, .bool false, .string ⟨#[]⟩, .int .i64 0, .string ⟨#[]⟩, .slice none 0 0, .slice none 0 0] _ rfl (fun _ => True) (fun _ => False) rfl rfl (M_mk77 _ _) (M_mk78 _ _) (fun _ h => h.elim) (fun _ _ => trivial) hR4.out (Below.refl _ _) hk4.2 ?aL ?_; (case aL => rw [hlenL.out]; omega); intro v1 w5 hR7 hB7 hg7 hat7; have hN7 := hN4.out.grown hg7 hat7 (fun k hk => by have := Kd.R_base hR4.out k hk; omega) (hN4.out.tb_ne hR4.out); have hK7 := hk4.1.grown hg7 (fun k hk => Kd.R_base hR4.out k hk) hk4.2; have hs7 : W3.heap.size ≤ w5.heap.size := Nat.le_trans hk4.2 hg7.size; obtain ⟨g1, c1, hv1, hg1b, hg1l, hc1⟩ := R_open2 hR7 (by rw [hl12.out]; omega); rw [hl12.out] at hv1 hc1; subst hv1; have hN8 := hN7.mono (ok' := (fun k => (ok k ∧ k < w.heap.size) ∨ W3.heap.size ≤ k)) (fun k hk => hk.1); have hcT := cellAll hN8.blk; replace hN8 := Aside0.mk hN8; replace hR7 := Aside0.mk hR7; clear hN7 hB7 hg7 hat7))
      have hok10 : ∀ k, ((fun k => (ok k ∧ k < w.heap.size) ∨ W3.heap.size ≤ k) k) → k ≠ w.heap.size + 1 + 1 := fun k hk => by rcases hk with hk | hk <;> omega
      have hok11 : ∀ k, ((fun k => (ok k ∧ k < w.heap.size) ∨ W3.heap.size ≤ k) k) → k ≠ w.heap.size + 1 := fun k hk => by rcases hk with hk | hk <;> omega
      have hN10 := hN9.out.set (g := w.heap.size + 1 + 1) (by omega) (by omega) hok10 6 (.slice (some ⟨g1, 0, none⟩) j c1)
      have hR10 := Kd.R_far (p := ⟨w.heap.size + 1 + 1, 6, none⟩) (Kd.R_mono (Kd.R_bound (R_prefix (xs := xs) (ys := [mk77, mk78]) (g := g1) (cap := c1) (by rw [hl12.out]; exact hR9.out))) (fun k hk => hk.2.1)) (fun k hk => by show k ≠ w.heap.size + 1 + 1; omega) (.slice (some ⟨g1, 0, none⟩) j c1)
      rw [hW10] at hN10 hR10
      rw [hlenL.out] at hR10
      have hmA : ∀ l ∈ ls1 ++ [xs ++ [mk77, mk78]], MkL l ∧ l.length ≤ 140737488355328 := fun l hl => by
        rcases List.mem_append.1 hl with hl | hl
        · exact hm1 l hl
        · rw [List.mem_singleton.1 hl]
          exact ⟨⟨xs, rfl⟩, by rw [hl12.out]; omega⟩
      rw [List.append_assoc] at hN10
      refine bodyPost_ret (v := .agg #[.int .i64 k, .bool t, .bool ng, .string ds, .int .i64 ex, .string tx, .slice (some ⟨g1, 0, none⟩) j c1, .slice none 0 0]) (by simp [results, Tryz.results32, go_sem, hc10r]) rfl ⟨[.int .i64 k, .bool t, .bool ng, .string ds, .int .i64 ex, .string tx, .slice (some ⟨g1, 0, none⟩) j c1, .slice none 0 0], rfl, ?_, .slice A2 n2 c2, vf1, ls1 ++ [xs ++ [mk77, mk78]], fs1, ?_, hmA, hf1', ?_, ?_⟩
      · obtain rfl : fs = [] := List.eq_nil_of_length_eq_zero hlenF.out
        exact kV_mkM (x := .mk k t ng ds ex tx xs []) (R_setsV (W := W3) (Kd.R_mono hR10 (fun _ _ => trivial)) (by omega) (by omega)) (R_setsG (W := W3) (R_nilF _ _ _) (by omega) (by omega))
      · refine Lnt.mono (ok := (fun k => (ok k ∧ k < w.heap.size) ∨ W3.heap.size ≤ k)) ?_ (fun k hk => by rcases hk with hk | hk; exact .inl hk.1; exact .inr (by omega))
        exact (((((((hN10.set (by omega) (by omega) hok11 _ _).set (by omega) (by omega) hok11 _ _).set (by omega) (by omega) hok11 _ _).set (by omega) (by omega) hok11 _ _).set (by omega) (by omega) hok11 _ _).set (by omega) (by omega) hok11 _ _).set (by omega) (by omega) hok11 _ _).set (by omega) (by omega) hok11 _ _
      · rw [List.length_append]; simp; omega
      · omega
end Go.Proofs.YtkdeleafgailhaaGreatDoor
end
section
set_option linter.unusedVariables false
set_option linter.unusedSimpArgs false
namespace Go.Proofs.YtkdeleafgailhaaGreatDoor
open Go Go.RowKit Go.Proofs.YtkdeleafgailhaaGreatDoorW.PrintWords


set_option maxRecDepth 100000 in
set_option maxHeartbeats 16000000 in
theorem marked_01 (w0 w : World) (tb : Nat) (P : Nat → Value) (ok : Nat → Prop) (vl vf : Value) (ls : List (List JV)) (fs0 : List (List JF)) (k : Int) (t ng : Bool) (ds tx : ByteArray) (ex : Int) (A B : Option Addr) (nl c nf d : Nat) (xs : List JV) (fs : List JF) (hC : kV.C w0 A nl xs) (hCf : kF.C w0 B nf fs) (hN : Lnt w0 w w tb P ok vl vf ls fs0) (hok : ∀ y ∈ xs, MarkOK y) (hokf : ∀ g ∈ fs, MarkOK g.value) (hwt : JV.wtL xs + JV.wtF fs ≤ 4294967295) (hls : ls.length + (JV.wtL xs + JV.wtF fs) < 1099511627776) (hfs : fs0.length + (JV.wtL xs + JV.wtF fs) < 1099511627776) (hL : nl = 0) (hF : 0 < nf) :
    Calls Tryz.prog 32 #[.pointer (some ⟨tb, 0, none⟩), .agg #[.int .i64 k, .bool t, .bool ng, .string ds, .int .i64 ex, .string tx, .slice A nl c, .slice B nf d]] w fun e w' => ∃ cs' vl' vf' ls' fs', e = .returned (.agg cs'.toArray) ∧ kV.M w' w.heap.size (fun _ => True) (.mk k t ng ds ex tx xs fs) cs' ∧ Lnt w0 w w' tb P (fun k => ok k ∨ w.heap.size ≤ k) vl' vf' (ls ++ ls') (fs0 ++ fs') ∧ (∀ l ∈ ls', MkL l ∧ l.length ≤ 140737488355328) ∧ (∀ l ∈ fs', MkF l ∧ l.length ≤ 140737488355328) ∧ ls'.length ≤ 1 + (JV.wtL xs + JV.wtF fs) ∧ fs'.length ≤ 1 + (JV.wtL xs + JV.wtF fs) := by
  subst hL
  have hlenL := hC.1
  have hlenF := hCf.1
  have hllL := wtL_len xs
  have hllF := wtF_len fs
  have hB0 := ((Below.refl w.heap.size w).alloc (Nat.le_refl _) (.cells #[.int .i64 k, .bool t, .bool ng, .string ds, .int .i64 ex, .string tx, .slice A 0 c, .slice B nf d] 27)).alloc (by simp) (.cells #[.int .i64 0, .bool false, .bool false, .string ⟨#[]⟩, .int .i64 0, .string ⟨#[]⟩, .slice none 0 0, .slice none 0 0] 27)
  obtain ⟨e0, e1⟩ := boxes' w (.cells #[.int .i64 k, .bool t, .bool ng, .string ds, .int .i64 ex, .string tx, .slice A 0 c, .slice B nf d] 27) (.cells #[.int .i64 0, .bool false, .bool false, .string ⟨#[]⟩, .int .i64 0, .string ⟨#[]⟩, .slice none 0 0, .slice none 0 0] 27)
  have hl2f0 : (0 : Int) < (nf : Int) := by omega
  go_enter Tryz.func32, Tryz.ntmps32
  go_wp2_with fail
  obtain ⟨W3, hW3⟩ : ∃ W3, (((w.alloc (.cells #[.int .i64 k, .bool t, .bool ng, .string ds, .int .i64 ex, .string tx, .slice A 0 c, .slice B nf d] 27)).alloc (.cells #[.int .i64 0, .bool false, .bool false, .string ⟨#[]⟩, .int .i64 0, .string ⟨#[]⟩, .slice none 0 0, .slice none 0 0] 27)).alloc (.cells #[.int .i64 k, .bool t, .bool ng, .string ds, .int .i64 ex, .string tx, .slice none 0 0, .slice none 0 0] 27)) = W3 := ⟨_, rfl⟩
  have f2 := heap_alloc_new ((w.alloc (.cells #[.int .i64 k, .bool t, .bool ng, .string ds, .int .i64 ex, .string tx, .slice A 0 c, .slice B nf d] 27)).alloc (.cells #[.int .i64 0, .bool false, .bool false, .string ⟨#[]⟩, .int .i64 0, .string ⟨#[]⟩, .slice none 0 0, .slice none 0 0] 27)) (.cells #[.int .i64 k, .bool t, .bool ng, .string ds, .int .i64 ex, .string tx, .slice none 0 0, .slice none 0 0] 27)
  have f0 := (heap_alloc_old _ (.cells #[.int .i64 k, .bool t, .bool ng, .string ds, .int .i64 ex, .string tx, .slice none 0 0, .slice none 0 0] 27) (blk_lt e0)).trans e0
  have f1 := (heap_alloc_old _ (.cells #[.int .i64 k, .bool t, .bool ng, .string ds, .int .i64 ex, .string tx, .slice none 0 0, .slice none 0 0] 27) (blk_lt e1)).trans e1
  have hB3 := hB0.alloc (by simp; omega) (.cells #[.int .i64 k, .bool t, .bool ng, .string ds, .int .i64 ex, .string tx, .slice none 0 0, .slice none 0 0] 27)
  have hs2 : ((w.alloc (.cells #[.int .i64 k, .bool t, .bool ng, .string ds, .int .i64 ex, .string tx, .slice A 0 c, .slice B nf d] 27)).alloc (.cells #[.int .i64 0, .bool false, .bool false, .string ⟨#[]⟩, .int .i64 0, .string ⟨#[]⟩, .slice none 0 0, .slice none 0 0] 27)).heap.size = w.heap.size + 1 + 1 := by simp
  have hs3 : W3.heap.size = w.heap.size + 3 := by rw [← hW3]; simp
  rw [hs2] at f2
  rw [hW3] at f0 f1 f2 hB3 ⊢
  clear hW3
  have hN3 := (hN.bound.below hB3).mono (ok' := fun k => (ok k ∧ k < w.heap.size) ∨ W3.heap.size ≤ k) (fun k hk => .inl hk)
  have hc0 := cellAll f0
  have hg1 : w.heap.size < W3.heap.size := by omega
  have hg2 : w.heap.size + 1 < W3.heap.size := by omega
  have hg3 : w.heap.size + 1 + 1 < W3.heap.size := by omega
  clear hs2 e0 e1 hB0
  replace hlenL := Aside0.mk hlenL
  replace hlenF := Aside0.mk hlenF
  replace f0 := Aside0.mk f0
  replace f1 := Aside0.mk f1
  replace f2 := Aside0.mk f2
  replace hB3 := Aside0.mk hB3
  replace hN3 := Aside0.mk hN3
  replace hN := Aside0.mk hN
  replace hs3 := Aside0.mk hs3
  skip
  replace hwt := Aside0.mk hwt
  replace hls := Aside0.mk hls
  replace hfs := Aside0.mk hfs
  obtain ⟨vlA, vfA, lsA, fsA, hNL, hmA, hmF, hnA, hnF⟩ : ∃ vlA vfA lsA fsA, Lnt w0 w W3 tb P (fun k => (ok k ∧ k < w.heap.size) ∨ W3.heap.size ≤ k) vlA vfA (ls ++ lsA) (fs0 ++ fsA) ∧ (∀ l ∈ lsA, MkL l ∧ l.length ≤ 140737488355328) ∧ (∀ l ∈ fsA, MkF l ∧ l.length ≤ 140737488355328) ∧ lsA.length ≤ JV.wtL xs + 1 ∧ fsA.length ≤ JV.wtL xs := ⟨vl, vf, [], [], by rw [List.append_nil, List.append_nil]; exact hN3.out, (fun l h => nomatch h), (fun l h => nomatch h), Nat.zero_le _, Nat.zero_le _⟩
  have hbLv := f0
  have hbLr := f1
  have hbLx := f2
  have hzL : W3.heap.size ≤ W3.heap.size := Nat.le_refl _
  have hRL : Aside0 (kV.R 27 W3 W3.heap.size (fun _ => True) (.slice none 0 0) xs) := ⟨by rw [List.eq_nil_of_length_eq_zero hlenL.out]; exact R_nilV _ _ _⟩
  clear hc0
  replace hNL := Aside0.mk hNL
  replace hnA := Aside0.mk hnA
  replace hnF := Aside0.mk hnF
  have hl2f : (0 : Int) < (nf : Int) := by omega
  have hnf : nf ≤ 4294967296 := by have := hlenF.out; have := hwt.out; omega
  go_loopw [8, 9] (fun u8 i wr => ∃ (j2 : Nat) (vl3 vf3 : Value) (ls3 : List (List JV)) (fs3 : List (List JF)), i = .int .i64 j2 ∧ j2 ≤ nf ∧ Lnt w0 w wr tb P (fun k => (fun k => (ok k ∧ k < w.heap.size) ∨ W3.heap.size ≤ k) k ∧ some k ≠ u8.ownBlock) vl3 vf3 (ls ++ lsA ++ ls3) (fs0 ++ fsA ++ fs3) ∧ kF.R 69 wr W3.heap.size (fun _ => True) u8 (fs.take j2) ∧ (KeptOld W3 wr ∧ W3.heap.size ≤ wr.heap.size) ∧ (∀ l ∈ ls3, MkL l ∧ l.length ≤ 140737488355328) ∧ (∀ l ∈ fs3, MkF l ∧ l.length ≤ 140737488355328) ∧ ls3.length ≤ JV.wtF (fs.take j2) ∧ fs3.length ≤ JV.wtF (fs.take j2)) (fun _ i _ => nf - (intOf i).toNat)
  case atStart => exact ⟨0, vlA, vfA, [], [], rfl, Nat.zero_le _, by rw [List.append_nil, List.append_nil]; exact hNL.out.mono (fun k hk => ⟨hk, by simp [Value.ownBlock]⟩), R_nilF _ _ _, ⟨KeptOld.refl _, Nat.le_refl _⟩, (fun l h => nomatch h), (fun l h => nomatch h), Nat.zero_le _, Nat.zero_le _⟩
  case round =>
    obtain ⟨j2, vl3, vf3, ls3, fs3, rfl, hj2, hN4, hR4, hk4, hm1, hf1', hn1, hnf1⟩ := hrel
    have hbf := hk4.1 _ _ _ hbLv.out (by decide) (by decide) (by decide)
    have hcf := cellAll hbf
    obtain ⟨inner4, hown4⟩ := Kd.R_own (Kd.R_below hR4 (Below.refl _ _).drew)
    have hsum : JV.wtF fs = JV.wtF (fs.take j2) + JV.wtF (fs.drop j2) := by rw [← wtF_app, List.take_append_drop]
    by_cases hlt : j2 < nf
    · obtain ⟨ad, x, A6, c6, A7, c7, rfl, hx, hcs, l6, g6, l7, g7⟩ := at_F hCf j2 hlt
      have hK := kV_mkK l6 g6 l7 g7
      unfold JV.cells at hcs hK
      obtain ⟨q0, q1, q2, q3, q4, q5, q6, q7, q8, _⟩ := hcs
      have hxm : x ∈ fs := List.mem_of_getElem? hx
      have hwx := wt_memF hxm
      have hoj := hokf x hxm
      have hw2 : JV.wtF (fs.take (j2 + 1)) = JV.wtF (fs.take j2) + (1 + x.name.size + x.value.wt) := by
        rw [List.take_add_one, hx, Option.toList_some, wtF_app, wtF_one]
      have hw3 : JV.wtF fs = JV.wtF (fs.take (j2 + 1)) + JV.wtF (fs.drop (j2 + 1)) := by rw [← wtF_app, List.take_append_drop]
      have hSof : ∀ W, W.heap[w.heap.size]? = some (.cells #[.int .i64 k, .bool t, .bool ng, .string ds, .int .i64 ex, .string tx, .slice A 0 c, .slice (some ad) nf d] 27 (0, 0)) → Below w0.heap.size w0 W → W.cell? ⟨w.heap.size, 7, none⟩ = some (.slice (some ad) nf d) ∧ W.cell? (ad.add (j2 * 9)) = some (.string x.name) ∧ W.cell? ⟨(ad.add (j2 * 9)).block, (ad.add (j2 * 9)).off + (0 + 1), none⟩ = some (.int .i64 x.value.kind) ∧ W.cell? ⟨(ad.add (j2 * 9)).block, (ad.add (j2 * 9)).off + (1 + 1), none⟩ = some (.bool x.value.truth) ∧ W.cell? ⟨(ad.add (j2 * 9)).block, (ad.add (j2 * 9)).off + (2 + 1), none⟩ = some (.bool x.value.neg) ∧ W.cell? ⟨(ad.add (j2 * 9)).block, (ad.add (j2 * 9)).off + (3 + 1), none⟩ = some (.string x.value.digits) ∧ W.cell? ⟨(ad.add (j2 * 9)).block, (ad.add (j2 * 9)).off + (4 + 1), none⟩ = some (.int .i64 x.value.exp) ∧ W.cell? ⟨(ad.add (j2 * 9)).block, (ad.add (j2 * 9)).off + (5 + 1), none⟩ = some (.string x.value.text) ∧ W.cell? ⟨(ad.add (j2 * 9)).block, (ad.add (j2 * 9)).off + (6 + 1), none⟩ = some (.slice A6 x.value.list.length c6) ∧ W.cell? ⟨(ad.add (j2 * 9)).block, (ad.add (j2 * 9)).off + (7 + 1), none⟩ = some (.slice A7 x.value.fields.length c7) := fun W hb hl => ⟨cellAll hb 7, pw_cell_below hl q0, pw_cell_below hl q1, pw_cell_below hl q2, pw_cell_below hl q3, pw_cell_below hl q4, pw_cell_below hl q5, pw_cell_below hl q6, pw_cell_below hl q7, pw_cell_below hl q8⟩
      have hbd : Below wr.heap.size wr wr.drew := (Below.refl _ _).drew
      have hN4d := hN4.below hbd
      have hR4d := Kd.R_below hR4 hbd
      have hS0 := hSof wr hbf hN4.low
      have hS1 := hSof wr.drew hbf hN4d.low
      have hlt2 : (j2 : Int) < (nf : Int) := by omega
      have hj0 : (0 : Int) ≤ (j2 : Int) := by omega
      have htj : (fs.take j2).length = j2 := by rw [List.length_take, hlenF.out]; omega
      replace htj := Aside0.mk htj
      have hbA : Aside0 (x.value.wt ≤ 4294967296) := ⟨by have := hwt.out; omega⟩
      have hbB : Aside0 ((ls ++ lsA ++ ls3).length + x.value.wt ≤ 1099511627776) := ⟨by have := hls.out; have := hnA.out; rw [List.length_append, List.length_append]; omega⟩
      have hbC : Aside0 ((fs0 ++ fsA ++ fs3).length + x.value.wt ≤ 1099511627776) := ⟨by have := hfs.out; have := hnF.out; rw [List.length_append, List.length_append]; omega⟩
      have hN4h := Aside0.mk hN4d.here
      replace hN4 := Aside0.mk hN4
      replace hN4d := Aside0.mk hN4d
      replace hR4 := Aside0.mk hR4
      replace hR4d := Aside0.mk hR4d
      replace hown4 := Aside0.mk hown4
      replace hbd := Aside0.mk hbd
      replace hw2 := Aside0.mk hw2
      replace hw3 := Aside0.mk hw3
      replace hsum := Aside0.mk hsum
      replace hx := Aside0.mk hx
      replace hbf := Aside0.mk hbf
      clear hxm q0 q1 q2 q3 q4 q5 q6 q7 q8
      go_wp2_with fail
      go_region_held3 (fun W => W.cell? ⟨w.heap.size, 7, none⟩ = some (.slice (some ad) nf d) ∧ W.cell? (ad.add (j2 * 9)) = some (.string x.name) ∧ W.cell? ⟨(ad.add (j2 * 9)).block, (ad.add (j2 * 9)).off + (0 + 1), none⟩ = some (.int .i64 x.value.kind) ∧ W.cell? ⟨(ad.add (j2 * 9)).block, (ad.add (j2 * 9)).off + (1 + 1), none⟩ = some (.bool x.value.truth) ∧ W.cell? ⟨(ad.add (j2 * 9)).block, (ad.add (j2 * 9)).off + (2 + 1), none⟩ = some (.bool x.value.neg) ∧ W.cell? ⟨(ad.add (j2 * 9)).block, (ad.add (j2 * 9)).off + (3 + 1), none⟩ = some (.string x.value.digits) ∧ W.cell? ⟨(ad.add (j2 * 9)).block, (ad.add (j2 * 9)).off + (4 + 1), none⟩ = some (.int .i64 x.value.exp) ∧ W.cell? ⟨(ad.add (j2 * 9)).block, (ad.add (j2 * 9)).off + (5 + 1), none⟩ = some (.string x.value.text) ∧ W.cell? ⟨(ad.add (j2 * 9)).block, (ad.add (j2 * 9)).off + (6 + 1), none⟩ = some (.slice A6 x.value.list.length c6) ∧ W.cell? ⟨(ad.add (j2 * 9)).block, (ad.add (j2 * 9)).off + (7 + 1), none⟩ = some (.slice A7 x.value.fields.length c7))
        (first | (with_reducible exact hS0) | (with_reducible exact hS1) | (with_reducible exact hS4) | (with_reducible exact hSa4 _) | (with_reducible exact hS5))
        (first | (refine Kd.R_append_step kF (w0 := w4) W3.heap.size (by rfl) (.tmp 66) (.tmp 82) 25 69 zF 128 (by rfl) Tryz.underlying25 infoF (by rfl) (by decide) (by omega) u8 (fs.take j2) x [.string x.name, .int .i64 x.value.kind, .bool x.value.truth, .bool x.value.neg, .string x.value.digits, .int .i64 x.value.exp, .string x.value.text, .slice Al x.value.list.length cl, .slice Af x.value.fields.length cf] (fun _ => True) _ (by rfl) (by rfl) ⟨[.string x.name], _, rfl, rfl, hM6.out⟩ (fun _ hk => hk) (fun _ _ => trivial) hR6.out (Below.refl _ _) hs6 ?aL ?_; (case aL => (rw [htj.out]; omega)); intro v1 w5 hR7 hB7 hg7 hat7; have hbf5 := blk_grown hbf4.out hg7 (fun e => by have := Kd.R_base hR6.out _ e.symm; omega); have hS5 := hSof w5 hbf5 (hN6.out.low.grown hg7 hN6.out.low.size (fun k hk => by have := Kd.R_base hR6.out k hk; have := hNL.out.low.size; omega)); replace hR7 := Aside0.mk hR7; replace hg7 := Aside0.mk hg7; replace hat7 := Aside0.mk hat7; replace hB7 := Aside0.mk hB7) | (go_at_call 32; refine (hoj w0 _ tb P _ _ _ _ _ _ hK hN4h.out hbA.out hbB.out hbC.out).mono ?_; rintro e w4 ⟨cs', vl2, vf2, ls2, fs2, rfl, hM, hN5, hm2, hf2, hn2, hnf2⟩; obtain ⟨vl8, vf8, rfl, hRl8, hRf8⟩ := kV_openM hM; unfold JV.cells at hM; obtain ⟨Al, cl, rfl⟩ := Kd.R_slice hRl8; obtain ⟨Af, cf, rfl⟩ := Kd.R_slice hRf8; unfold JV.cells; clear hRl8 hRf8; have hN6 := (hN4d.out.back hN5).mono (ok' := fun k => (fun k => (ok k ∧ k < w.heap.size) ∨ W3.heap.size ≤ k) k ∧ some k ≠ Value.ownBlock u8) (fun k hk => by rcases hk with hk | hk; exact hk; exact ⟨.inr (by have := hN5.w0w; have : wr.heap.size ≤ k := hk; omega), fun e => by have := Kd.R_lt hR4.out k e.symm; have : wr.heap.size ≤ k := hk; omega⟩); have hR6 := R_keptF hR4d.out hN5.old; have hK6 := hk4.1.trans ((KeptOld.of_below hbd.out).trans hN5.old); have hs6 : W3.heap.size ≤ w4.heap.size := Nat.le_trans hk4.2 hN5.sz; have hM6 := kV.M_lower (base' := W3.heap.size) (show W3.heap.size ≤ wr.drew.heap.size from hk4.2) (Kd.M_new hM hown4.out); have hbf4 := hN5.old _ _ _ hbf.out (by decide) (by decide) (by decide); have hS4 := hSof w4 hbf4 hN5.low; have hSa4 := fun o => hSof (w4.alloc o) ((heap_alloc_old w4 o (blk_lt hbf4)).trans hbf4) (hN5.low.alloc hN5.low.size o); clear hM; replace hM6 := Aside0.mk hM6; replace hN6 := Aside0.mk hN6; replace hR6 := Aside0.mk hR6; replace hN5 := Aside0.mk hN5; replace hbf4 := Aside0.mk hbf4))
      all_goals (go_wp2_with fail)
      refine ⟨⟨j2 + 1, vl2, vf2, ls3 ++ ls2, fs3 ++ fs2, by go_num, by omega, ?_, ?_, ?_, ?_, ?_, ?_, ?_⟩, by first | (simp [intOf]; done) | (simp [intOf]; omega)⟩
      · rw [← List.append_assoc, ← List.append_assoc (fs0 ++ fsA)]
        exact hN6.out.grown hg7.out hat7.out (fun k hk => by have := Kd.R_base hR6.out k hk; omega) (hN6.out.tb_neF hR6.out)
      · rw [show fs.take (j2 + 1) = fs.take j2 ++ [x] by rw [List.take_add_one, hx.out, Option.toList_some]]
        exact hR7.out
      · exact ⟨hK6.grown hg7.out (fun k hk => Kd.R_base hR6.out k hk) hs6, by have := hg7.out.size; omega⟩
      · exact fun l h => by rcases List.mem_append.1 h with h | h; exact hm1 l h; exact hm2 l h
      · exact fun l h => by rcases List.mem_append.1 h with h | h; exact hf1' l h; exact hf2 l h
      · rw [List.length_append, hw2.out]; omega
      · rw [List.length_append, hw2.out]; omega
    · obtain rfl : j2 = nf := by omega
      have hall2 : fs.take j2 = fs := by rw [← hlenF.out, List.take_length]
      rw [hall2] at hR4 hn1 hnf1
      have hno2 : ¬ (j2 : Int) < (j2 : Int) := by omega
      have hl13 : Aside0 ((fs ++ [fm1, fm2]).length = j2 + 2) := ⟨by rw [List.length_append, hlenF.out]; rfl⟩
      have hlB : Aside0 (((fs0 ++ fsA ++ fs3).length + 1) * 24 ≤ 140737488355328) := ⟨by have := hfs.out; have := hnF.out; rw [List.length_append, List.length_append]; omega⟩
      have hw0 := Aside0.mk hN4.w0w
      have htbw := blk_lt hN.out.blk
      replace hN4 := Aside0.mk hN4
      replace hR4 := Aside0.mk hR4
      clear hown4 hsum
      go_wp2_with (first | ((with_reducible refine gate_builtin (b := .append) (xs := #[.tmp 93, .tmp 95]) rfl ?_); at_builtin; refine Kd.R_append kFF (w0 := w5) w0.heap.size rfl (.tmp 93) (.tmp 95) 34 25 zL 24 rfl Tryz.underlying34 infoLF rfl (by decide) (by omega) vf3 (fs0 ++ fsA ++ fs3) (fs ++ [fm1, fm2]) [.slice (some ⟨g2, 0, none⟩) (j2 + 2) cg] (fun k => (ok k ∧ k < w.heap.size) ∨ W3.heap.size ≤ k) _ rfl rfl ⟨_, rfl, Kd.R_lower (R_apartF hR7.out hN8.out.rf) (by have := hw0.out; omega)⟩ (fun k hk => ⟨.inr (by have := hk.1.2; omega), hk.2⟩) (fun k hk => .inr (by omega)) hN8.out.rf (Below.refl _ _) (by have := hw0.out; omega) hlB.out ?_; intro v2 w6 hR8 hB8 hg8 hat8; obtain ⟨ng2, Ag, cg2, hv2⟩ : ∃ n2 A2 c2, v2 = .slice A2 n2 c2 := (by obtain ⟨A2, c2, hv⟩ := Kd.R_slice hR8; exact ⟨_, A2, c2, hv⟩); subst hv2; have hb8 := blk_grown hN8.out.blk hg8 (fun e => by obtain ⟨inn, ho⟩ := Kd.R_own hN8.out.rf; obtain ⟨cc, hcc⟩ := own_typed ho tb e.symm; rw [hN8.out.blk] at hcc; injection hcc with hcc; injection hcc with _ ht; exact absurd ht (by decide)); have hf8 := frozenAll hb8; have hc8 := cellAll hb8; obtain ⟨W11, hW11⟩ : ∃ W11, w6.setCell ⟨tb, 17, none⟩ (.slice Ag ng2 cg2) = W11 := ⟨_, rfl⟩; have hnew8 : ∀ k, vf3.ownBlock = some k → w0.heap.size ≤ k := fun k hk => Kd.R_base hN8.out.rf k hk; have hN11 := hN8.out.addF hR8 hg8 hnew8; have hO9 := (hN8.out.here.addF hR8 hg8 hnew8).old; have hz11 := (hN8.out.here.addF hR8 hg8 hnew8).sz; rw [hW11] at hN11 hO9 hz11; have hK11 := hK7.trans hO9; have hb9v := hK11 _ _ _ hbLv.out (by decide) (by decide) (by decide); have hb9r := hK11 _ _ _ hbLr.out (by decide) (by decide) (by decide); have hb9x := hK11 _ _ _ hbLx.out (by decide) (by decide) (by decide); have hc9v2 := cellAll hb9v; have hc9x2 := cellAll hb9x; have hf9x2 := frozenAll hb9x; have hR11 := R_keptF hR7.out hO9; obtain ⟨W12, hW12⟩ : ∃ W12, W11.setCell ⟨w.heap.size + 1 + 1, 7, none⟩ (.slice (some ⟨g2, 0, none⟩) j2 cg) = W12 := ⟨_, rfl⟩; have hb12r := blk_far hb9r (p := ⟨w.heap.size + 1 + 1, 7, none⟩) (by show w.heap.size + 1 ≠ w.heap.size + 1 + 1; omega) (.slice (some ⟨g2, 0, none⟩) j2 cg); have hb12x := blk_set hb9x 7 (.slice (some ⟨g2, 0, none⟩) j2 cg); rw [hW12] at hb12r hb12x; replace hb12x : W12.heap[w.heap.size + 1 + 1]? = some (.cells #[.int .i64 k, .bool t, .bool ng, .string ds, .int .i64 ex, .string tx, .slice none 0 0, .slice (some ⟨g2, 0, none⟩) j2 cg] 27 (0, 0)) := hb12x; have hc12r := cellAll hb12r; have hf12r := frozenAll hb12r; have hc12x := cellAll hb12x; have hf12x := frozenAll hb12x; replace hN11 := Aside0.mk hN11; replace hR11 := Aside0.mk hR11; clear hb9v hb9r hb9x hb8 hR8 hB8 hg8 hat8 hnew8 hb12r hb12x) | ((with_reducible refine gate_builtin (b := .append) (xs := #[.tmp 84, .tmp 87]) rfl ?_); at_builtin; refine R_append2 kF (w0 := wr) W3.heap.size rfl (.tmp 84) (.tmp 87) 25 69 zF 128 rfl Tryz.underlying25 infoF rfl (by decide) (by omega) u8 fs fm1 fm2 [.string ⟨#[35]⟩, .int .i64 0, .bool false, .bool false, .string ⟨#[]⟩, .int .i64 0, .string ⟨#[]⟩, .slice none 0 0, .slice none 0 0] [.string ⟨#[35, 35]⟩, .int .i64 0, .bool false, .bool false, .string ⟨#[]⟩, .int .i64 0, .string ⟨#[]⟩, .slice none 0 0, .slice none 0 0] _ rfl (fun _ => True) (fun _ => False) rfl rfl (M_fm _ _ _) (M_fm _ _ _) (fun _ h => h.elim) (fun _ _ => trivial) hR4.out (Below.refl _ _) hk4.2 ?aL ?_; (case aL => rw [hlenF.out]; omega); intro v1 w5 hR7 hB7 hg7 hat7; have hN7 := hN4.out.grown hg7 hat7 (fun k hk => by have := Kd.R_base hR4.out k hk; omega) (hN4.out.tb_neF hR4.out); have hK7 := hk4.1.grown hg7 (fun k hk => Kd.R_base hR4.out k hk) hk4.2; have hs7 : W3.heap.size ≤ w5.heap.size := Nat.le_trans hk4.2 hg7.size; obtain ⟨g2, cg, hv1, hg1b, hg1l, hc1⟩ := R_open2 hR7 (by rw [hl13.out]; omega); rw [hl13.out] at hv1 hc1; subst hv1; have hN8 := hN7.mono (ok' := (fun k => (ok k ∧ k < w.heap.size) ∨ W3.heap.size ≤ k)) (fun k hk => hk.1); have hcT := cellAll hN8.blk; replace hN8 := Aside0.mk hN8; replace hR7 := Aside0.mk hR7; clear hN7 hB7 hg7 hat7))
      have hok12 : ∀ k, ((fun k => (ok k ∧ k < w.heap.size) ∨ W3.heap.size ≤ k) k) → k ≠ w.heap.size + 1 + 1 := fun k hk => by rcases hk with hk | hk <;> omega
      have hok13 : ∀ k, ((fun k => (ok k ∧ k < w.heap.size) ∨ W3.heap.size ≤ k) k) → k ≠ w.heap.size + 1 := fun k hk => by rcases hk with hk | hk <;> omega
      have hN12 := hN11.out.set (g := w.heap.size + 1 + 1) (by omega) (by omega) hok12 7 (.slice (some ⟨g2, 0, none⟩) j2 cg)
      have hR12 := Kd.R_far (p := ⟨w.heap.size + 1 + 1, 7, none⟩) (Kd.R_mono (Kd.R_bound (R_prefix (xs := fs) (ys := [fm1, fm2]) (g := g2) (cap := cg) (by rw [hl13.out]; exact hR11.out))) (fun k hk => hk.2.1)) (fun k hk => by show k ≠ w.heap.size + 1 + 1; omega) (.slice (some ⟨g2, 0, none⟩) j2 cg)
      have hRV := Kd.R_far (p := ⟨w.heap.size + 1 + 1, 7, none⟩) (Kd.R_mono (Kd.R_bound (R_keptV hRL.out hK11)) (fun k hk => hk.2.1)) (fun k hk => by show k ≠ w.heap.size + 1 + 1; omega) (.slice (some ⟨g2, 0, none⟩) j2 cg)
      rw [hW12] at hN12 hR12 hRV
      rw [hlenF.out] at hR12
      have hmA2 : ∀ l ∈ lsA ++ ls3, MkL l ∧ l.length ≤ 140737488355328 := fun l hl => by
        rcases List.mem_append.1 hl with hl | hl
        · exact hmA l hl
        · exact hm1 l hl
      have hmF2 : ∀ l ∈ fsA ++ (fs3 ++ [fs ++ [fm1, fm2]]), MkF l ∧ l.length ≤ 140737488355328 := fun l hl => by
        rcases List.mem_append.1 hl with hl | hl
        · exact hmF l hl
        rcases List.mem_append.1 hl with hl | hl
        · exact hf1' l hl
        · rw [List.mem_singleton.1 hl]
          exact ⟨⟨fs, rfl⟩, by rw [hl13.out]; omega⟩
      rw [List.append_assoc ls, List.append_assoc (fs0 ++ fsA), List.append_assoc fs0] at hN12
      refine bodyPost_ret (v := .agg #[.int .i64 k, .bool t, .bool ng, .string ds, .int .i64 ex, .string tx, .slice none 0 0, .slice (some ⟨g2, 0, none⟩) j2 cg]) (by simp [results, Tryz.results32, go_sem, hc12r]) rfl ⟨[.int .i64 k, .bool t, .bool ng, .string ds, .int .i64 ex, .string tx, .slice none 0 0, .slice (some ⟨g2, 0, none⟩) j2 cg], rfl, ?_, vl3, .slice Ag ng2 cg2, lsA ++ ls3, fsA ++ (fs3 ++ [fs ++ [fm1, fm2]]), ?_, hmA2, hmF2, ?_, ?_⟩
      · exact kV_mkM (x := .mk k t ng ds ex tx xs fs) (R_setsV (W := W3) (Kd.R_mono hRV (fun _ _ => trivial)) (by omega) (by omega)) (R_setsG (W := W3) (Kd.R_lower (Kd.R_mono hR12 (fun _ _ => trivial)) hzL) (by omega) (by omega))
      · refine Lnt.mono (ok := (fun k => (ok k ∧ k < w.heap.size) ∨ W3.heap.size ≤ k)) ?_ (fun k hk => by rcases hk with hk | hk; exact .inl hk.1; exact .inr (by omega))
        exact (((((((hN12.set (by omega) (by omega) hok13 _ _).set (by omega) (by omega) hok13 _ _).set (by omega) (by omega) hok13 _ _).set (by omega) (by omega) hok13 _ _).set (by omega) (by omega) hok13 _ _).set (by omega) (by omega) hok13 _ _).set (by omega) (by omega) hok13 _ _).set (by omega) (by omega) hok13 _ _
      · have := hnA.out
        rw [List.length_append]; omega
      · have := hnF.out
        rw [List.length_append, List.length_append]; simp; omega
end Go.Proofs.YtkdeleafgailhaaGreatDoor
end
