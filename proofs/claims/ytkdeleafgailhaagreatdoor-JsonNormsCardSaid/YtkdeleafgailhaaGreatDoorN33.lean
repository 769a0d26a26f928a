/- voyageref02.Lend, with what Turn writes over. For voyagelaw02.JsonNorms: values in boxes, their rows apart; Apart of four. voyagelaw02.place at a fault. voyagelaw02.awake: true. -/
import Derived.Test.YtkdeleafgailhaaGreatDoorN32
import Derived.Test.YtkdeleafgailhaaGreatDoorN28
import Derived.Test.YtkdeleafgailhaaGreatDoorN29
import Derived.Test.YtkdeleafgailhaaGreatDoorN26
import Derived.Test.YtkdeleafgailhaaGreatDoorN20
import Derived.LaidEql
import Derived.Test.YtkdeleafgailhaaGreatDoorN10
section
set_option linter.unusedVariables false
set_option linter.unusedSimpArgs false
namespace Go.Proofs.YtkdeleafgailhaaGreatDoor
open Go Go.RowKit Go.Proofs.YtkdeleafgailhaaGreatDoorW.PrintWords

theorem RowAt.below {W W' : World} {a b : Nat} {q : TypeId} {sz : Nat} {LA : Option Addr} {i : Nat} {ad : Addr} {g m c : Nat} {cs : Array Value} (h : RowAt W a b q sz LA i ad g m c cs) (hb : Below W.heap.size W W') : RowAt W' a b q sz LA i ad g m c cs := by
  obtain ⟨hs, hq, h0, n1, n2⟩ := h.hty
  exact ⟨h.head, ⟨hs, hq, (hb.block _ (blk_lt h0)).trans h0, n1, n2⟩, pw_cell_below hb h.cell, (hb.block _ (blk_lt h.blk)).trans h.blk, h.len, h.ab, h.top⟩
theorem Hands.below {W W' : World} {tb a b : Nat} {LA FA : Option Addr} {nl lc nf fc : Nat} (h : Hands W tb a b LA FA nl lc nf fc) (hb : Below W.heap.size W W') : Hands W' tb a b LA FA nl lc nf fc := by
  obtain ⟨hs, hq, h0, n1, n2⟩ := h.tbt
  refine ⟨⟨hs, hq, (hb.block _ (blk_lt h0)).trans h0, n1, n2⟩, pw_cell_below hb h.cl, pw_cell_below hb h.cf, fun i hi => ?_, fun i hi => ?_, h.nl, h.nf⟩
  · obtain ⟨ad, g, m, c, cs, hR⟩ := h.rl i hi
    exact ⟨ad, g, m, c, cs, hR.below hb⟩
  · obtain ⟨ad, g, m, c, cs, hR⟩ := h.rf i hi
    exact ⟨ad, g, m, c, cs, hR.below hb⟩

set_option maxRecDepth 100000 in
set_option maxHeartbeats 8000000 in
/-- **voyageref02.Lend**, with what Turn writes over. -/
theorem lend2_any (x : JV) (w : World) (A B : Option Addr) (c d : Nat) (hK : kV.K w x [.int .i64 x.kind, .bool x.truth, .bool x.neg, .string x.digits, .int .i64 x.exp, .string x.text, .slice A x.list.length c, .slice B x.fields.length d]) (hwt : x.wt ≤ 4294967296) :
    Calls Tryz.prog 8 #[.agg #[.int .i64 x.kind, .bool x.truth, .bool x.neg, .string x.digits, .int .i64 x.exp, .string x.text, .slice A x.list.length c, .slice B x.fields.length d]] w fun e w' => ∃ tb A' B' A2 B2 LA FA c' d' c2 d2 lc fc ls fs, e = .returned (.pointer (some ⟨tb, 0, none⟩)) ∧ LentAt w' tb x A' B' A2 B2 LA FA c' d' c2 d2 lc fc ls fs ∧ Below w.heap.size w w' ∧ (∃ a b, w.heap.size ≤ a ∧ b ≤ w'.heap.size ∧ Hands w' tb a b LA FA ls.length lc fs.length fc) := by
  have hB1 := (Below.refl w.heap.size w).alloc (Nat.le_refl _) (.cells #[.int .i64 x.kind, .bool x.truth, .bool x.neg, .string x.digits, .int .i64 x.exp, .string x.text, .slice A x.list.length c, .slice B x.fields.length d] 27)
  have f0 := heap_alloc_new w (.cells #[.int .i64 x.kind, .bool x.truth, .bool x.neg, .string x.digits, .int .i64 x.exp, .string x.text, .slice A x.list.length c, .slice B x.fields.length d] 27)
  have hc0 := cellAll f0
  have hK1 := kV.K_below hB1 hK
  replace hK := Aside0.mk hK
  replace hK1 := Aside0.mk hK1
  replace hB1 := Aside0.mk hB1
  replace f0 := Aside0.mk f0
  go_enter Tryz.func8, Tryz.ntmps8
  go_wp2_with (first | (go_at_call 32; refine (marked_any x W2 W3 _ _ _ _ _ [] [] _ hKx.out hL3.out hwt (by simp; omega) (by simp; omega)).mono ?_; rintro e w4 ⟨cs4, vl4, vf4, ls4, fs4, rfl, hM4, hN4, hm4, hf4, hn4, hnf4⟩; obtain ⟨vl5, vf5, rfl, hRl5, hRf5⟩ := kV_openM hM4; unfold JV.cells at hM4; obtain ⟨A4, c4, rfl⟩ := Kd.R_slice hRl5; obtain ⟨B4, d4, rfl⟩ := Kd.R_slice hRf5; unfold JV.cells; replace hRl5 := Aside0.mk hRl5; replace hRf5 := Aside0.mk hRf5; have hb4 := hN4.blk; have hc4 := cellAll hb4; have hff4 := frozenAll hb4; clear hb4; replace hM4 := Aside0.mk hM4; replace hN4 := Aside0.mk hN4; replace hm4 := Aside0.mk hm4; replace hf4 := Aside0.mk hf4) | (go_at_call 31; refine (copied_any x _ _ hK1.out hwt).mono ?_; rintro e W2 ⟨cs2, rfl, hM2, hb2⟩; obtain ⟨vl2, vf2, rfl, hRl2, hRf2⟩ := kV_openM hM2; unfold JV.cells at hM2; obtain ⟨A2, c2, rfl⟩ := Kd.R_slice hRl2; obtain ⟨B2, d2, rfl⟩ := Kd.R_slice hRf2; unfold JV.cells; clear hRl2 hRf2; have hf2 := (hb2.block _ (blk_lt f0.out)).trans f0.out; have hc2 := cellAll hf2; have hBw2 := hB1.out.trans (hb2.mono (by simp)); obtain ⟨W3, hW3⟩ : ∃ W3, W2.alloc (.cells #[.int .i64 0, .bool false, .bool false, .string ⟨#[]⟩, .int .i64 0, .string ⟨#[]⟩, .slice none 0 0, .slice none 0 0, .int .i64 x.kind, .bool x.truth, .bool x.neg, .string x.digits, .int .i64 x.exp, .string x.text, .slice A2 x.list.length c2, .slice B2 x.fields.length d2, .slice none 0 0, .slice none 0 0] 36) = W3 := ⟨_, rfl⟩; have hf3 := heap_alloc_new W2 (.cells #[.int .i64 0, .bool false, .bool false, .string ⟨#[]⟩, .int .i64 0, .string ⟨#[]⟩, .slice none 0 0, .slice none 0 0, .int .i64 x.kind, .bool x.truth, .bool x.neg, .string x.digits, .int .i64 x.exp, .string x.text, .slice A2 x.list.length c2, .slice B2 x.fields.length d2, .slice none 0 0, .slice none 0 0] 36); have hfv3 := (heap_alloc_old W2 (.cells #[.int .i64 0, .bool false, .bool false, .string ⟨#[]⟩, .int .i64 0, .string ⟨#[]⟩, .slice none 0 0, .slice none 0 0, .int .i64 x.kind, .bool x.truth, .bool x.neg, .string x.digits, .int .i64 x.exp, .string x.text, .slice A2 x.list.length c2, .slice B2 x.fields.length d2, .slice none 0 0, .slice none 0 0] 36) (blk_lt hf2)).trans hf2; have hlow3 := (Below.refl W2.heap.size W2).alloc (Nat.le_refl _) (.cells #[.int .i64 0, .bool false, .bool false, .string ⟨#[]⟩, .int .i64 0, .string ⟨#[]⟩, .slice none 0 0, .slice none 0 0, .int .i64 x.kind, .bool x.truth, .bool x.neg, .string x.digits, .int .i64 x.exp, .string x.text, .slice A2 x.list.length c2, .slice B2 x.fields.length d2, .slice none 0 0, .slice none 0 0] 36); rw [hW3] at hf3 hfv3 hlow3; have hcv3 := cellAll hfv3; have hL3 : Lnt W2 W3 W3 W2.heap.size (fun k => ([.int .i64 0, .bool false, .bool false, .string ⟨#[]⟩, .int .i64 0, .string ⟨#[]⟩, .slice none 0 0, .slice none 0 0, .int .i64 x.kind, .bool x.truth, .bool x.neg, .string x.digits, .int .i64 x.exp, .string x.text, .slice A2 x.list.length c2, .slice B2 x.fields.length d2] : List Value).getD k (.bool false)) (fun _ => True) (.slice none 0 0) (.slice none 0 0) [] [] := ⟨hf3, ⟨fun _ _ => trivial, [], own_nil _ _ _ _, Reps.none _ _⟩, ⟨fun _ _ => trivial, [], own_nil _ _ _ _, Reps.none _ _⟩, hlow3, KeptOld.refl _, Nat.le_refl _, Nat.le_refl _, hlow3.size⟩; have hKx := kV.K_below hBw2 hK.out; have hK2 := kV.K_of_M hM2; replace hL3 := Aside0.mk hL3; replace hKx := Aside0.mk hKx; replace hK2 := Aside0.mk hK2; replace hBw2 := Aside0.mk hBw2; clear hM2 hf3 hb2))
  have hw3 : W3.heap[W2.heap.size]? = none ∨ ∃ cs, W3.heap[W2.heap.size]? = some (.cells cs 36 (0, 0)) := .inr ⟨_, hL3.out.blk⟩
  have hlt3 := blk_lt hL3.out.blk
  rw [List.nil_append, List.nil_append] at hN4
  have hN5 := (((((((hN4.out.setP hw3 0 (by decide) (.int .i64 x.kind)).setP hw3 1 (by decide) (.bool x.truth)).setP hw3 2 (by decide) (.bool x.neg)).setP hw3 3 (by decide) (.string x.digits)).setP hw3 4 (by decide) (.int .i64 x.exp)).setP hw3 5 (by decide) (.string x.text)).setP hw3 6 (by decide) (.slice A4 x.list.length c4)).setP hw3 7 (by decide) (.slice B4 x.fields.length d4)
  obtain ⟨LA, lc, hvl, _, hCl⟩ := Kd.R_reads hN5.rl
  obtain ⟨FA, fc, hvf, _, hCf⟩ := Kd.R_reads hN5.rf
  subst hvl hvf
  refine bodyPost_ret (v := .pointer (some ⟨W2.heap.size, 0, none⟩)) (by simp [results, Tryz.results8, go_sem]) rfl ⟨W2.heap.size, A4, B4, A2, B2, LA, FA, c4, d4, c2, d2, lc, fc, ls4, fs4, rfl, ⟨hN5.blk, ?_, kV.K_below hN5.low hK2.out, hCl, hCf, hm4.out, hf4.out, by omega, by omega⟩, hBw2.out.trans (hN5.low.mono hBw2.out.size), _, _, hBw2.out.size, Nat.le_refl _, hands_of hN5 rfl rfl hm4.out hf4.out (by omega) (by omega)⟩
  exact kV.K_of_M (kV_mkM (x := x) (R_setsV (W := W3) (g := W2.heap.size) (base := 0) hRl5.out hlt3 (Nat.zero_le _)) (R_setsG (W := W3) (g := W2.heap.size) (base := 0) hRf5.out hlt3 (Nat.zero_le _)))
end Go.Proofs.YtkdeleafgailhaaGreatDoor
end
section
set_option linter.unusedVariables false
set_option linter.unusedSimpArgs false
namespace Go.Proofs.YtkdeleafgailhaaGreatDoor
open Go Go.RowKit Go.Proofs.YtkdeleafgailhaaGreatDoorW.PrintWords

theorem low_rowV {B g : Nat} {a W : World} {cs : Array Value} (h : Below B a W) (hg : B ≤ g) : Below B a (W.setRow g cs) :=
  h.trans ⟨rfl, rfl, rfl, by simp [World.setRow], fun k hk => setRow_other W g k cs (by omega)⟩
def zA8 : Array Value := #[.int .i64 0, .bool false, .bool false, .string ⟨#[]⟩, .int .i64 0, .string ⟨#[]⟩, .slice none 0 0, .slice none 0 0]
/-- The cells of a value, as an array. -/
def vA (y : JV) (A : Option Addr) (c : Nat) (B : Option Addr) (d : Nat) : Array Value := #[.int .i64 y.kind, .bool y.truth, .bool y.neg, .string y.digits, .int .i64 y.exp, .string y.text, .slice A y.list.length c, .slice B y.fields.length d]
theorem size_V8 {n : Nat} (h : n = 8) : (Tryz.prog.info? 27).map (·.size) = some n := by subst h; kernel_rfl
section
variable {ops : Array Oper} {rest : List Oper} {o : Oper} {a : Act} {Q : Exit → Act → World → Prop} {w : World}
theorem vlist_store {cs old : Array Value} {B : Nat} (x y : Operand) (hgd : o.guard = none) (ho : o.op = .store 27 x y) (hx : a.eval x = .pointer (some ⟨B, 0, none⟩)) (hy : a.eval y = .agg cs) (hb : w.heap[B]? = some (.cells old 27 (0, 0))) (hold : old.size = 8) (hcs : cs.size = 8) (h1 : cs.all (·.oneCell') = true) (h : wpList Tryz.prog ops Q rest (a.put o.dst undef) (w.setRow B cs)) : wpList Tryz.prog ops Q (o :: rest) a w :=
  wpList_plain hgd fun _ hK => wp_store_row 27 x y ho B cs hx hy 27 old hb (size_V8 hcs) (hold.trans hcs.symm) h1 (hK _ _ h)
theorem vlist_load {cs : Array Value} {B : Nat} (x : Operand) (hgd : o.guard = none) (ho : o.op = .load 27 x) (hx : a.eval x = .pointer (some ⟨B, 0, none⟩)) (hb : w.heap[B]? = some (.cells cs 27 (0, 0))) (hcs : cs.size = 8) (h : wpList Tryz.prog ops Q rest (a.put o.dst (.agg cs)) w) : wpList Tryz.prog ops Q (o :: rest) a w :=
  wpList_plain hgd fun _ hK => wp_load_row 27 x ho B hx 27 cs (0, 0) _ hb Tryz.underlying27 rfl (size_V8 hcs) (hK _ _ h)
end
theorem vA_one (y : JV) (A : Option Addr) (c : Nat) (B : Option Addr) (d : Nat) : (vA y A c B d).all (·.oneCell') = true := by simp [vA, Value.oneCell']
/-- A value in a box at B, its rows apart, between lo and hi. -/
structure BoxA (W : World) (lo hi : Nat) (y : JV) (B : Nat) (A : Option Addr) (c : Nat) (A' : Option Addr) (d : Nat) (S : List Nat) : Prop where
  blk : W.heap[B]? = some (.cells (vA y A c A' d) 27 (0, 0))
  made : kV.M W lo (fun _ => True) y (y.cells (.slice A y.list.length c) (.slice A' y.fields.length d))
  ap : AP W y (y.cells (.slice A y.list.length c) (.slice A' y.fields.length d)) S
  nd : S.Nodup
  bd : ∀ k ∈ S, lo ≤ k ∧ k < hi
  le : hi ≤ B
  lob : lo ≤ B
theorem BoxA.kv {W : World} {lo hi : Nat} {y : JV} {B : Nat} {A : Option Addr} {c : Nat} {A' : Option Addr} {d : Nat} {S : List Nat} (h : BoxA W lo hi y B A c A' d S) : kV.K W y (vA y A c A' d).toList := kV.K_of_M h.made
theorem BoxA.move {W W' : World} {lo hi : Nat} {y : JV} {B : Nat} {A : Option Addr} {c : Nat} {A' : Option Addr} {d : Nat} {S : List Nat} (h : BoxA W lo hi y B A c A' d S) (hm : ∀ k, lo ≤ k → k < W.heap.size → W'.heap[k]? = W.heap[k]?) : BoxA W' lo hi y B A c A' d S :=
  ⟨(hm B h.lob (blk_lt h.blk)).trans h.blk, Kd.M_mono kV (fun k hk => hk.1) (Kd.M_move kV (w1 := W') (fun k hk => hm k hk.2.1 hk.2.2.1) (Kd.M_bound kV h.made)), AP_move y h.ap (fun k hk => hm k (h.bd k hk).1 (by have := (h.bd k hk).2; have := blk_lt h.blk; have := h.le; omega)), h.nd, h.bd, h.le, h.lob⟩
theorem BoxA.below {W W' : World} {lo hi : Nat} {y : JV} {B : Nat} {A : Option Addr} {c : Nat} {A' : Option Addr} {d : Nat} {S : List Nat} (h : BoxA W lo hi y B A c A' d S) (hb : Below W.heap.size W W') : BoxA W' lo hi y B A c A' d S := h.move (fun k _ hk => hb.block k hk)
theorem boxA_new {W : World} {lo : Nat} {y : JV} {A : Option Addr} {c : Nat} {A' : Option Addr} {d : Nat} {S : List Nat} (hlo : lo ≤ W.heap.size) (hM : kV.M W lo (fun _ => True) y (y.cells (.slice A y.list.length c) (.slice A' y.fields.length d))) (hA : Apt W lo y (y.cells (.slice A y.list.length c) (.slice A' y.fields.length d)) S) :
    BoxA ((W.alloc (.cells zA8 27)).setRow W.heap.size (vA y A c A' d)) lo W.heap.size y W.heap.size A c A' d S ∧ Below W.heap.size W ((W.alloc (.cells zA8 27)).setRow W.heap.size (vA y A c A' d)) := by
  have hb : Below W.heap.size W ((W.alloc (.cells zA8 27)).setRow W.heap.size (vA y A c A' d)) := low_rowV ((Below.refl _ W).alloc (Nat.le_refl _) _) (Nat.le_refl _)
  refine ⟨⟨setRow_heap (W.alloc (.cells zA8 27)) W.heap.size _ _ _ _ (heap_alloc_new W _), ?_, AP_move y hA.1 (fun k hk => hb.block k (hA.2.2 k hk).2), hA.2.1, hA.2.2, Nat.le_refl _, hlo⟩, hb⟩
  exact Kd.M_mono kV (fun _ _ => trivial) (Kd.M_move kV (fun k hk => hb.block k hk.2.2.1) (Kd.M_bound kV hM))
structure BoxK (W : World) (y : JV) (B : Nat) (A : Option Addr) (c : Nat) (A' : Option Addr) (d : Nat) : Prop where
  blk : W.heap[B]? = some (.cells (vA y A c A' d) 27 (0, 0))
  kv : kV.K W y (vA y A c A' d).toList
theorem BoxK.below {W W' : World} {y : JV} {B : Nat} {A : Option Addr} {c : Nat} {A' : Option Addr} {d : Nat} (h : BoxK W y B A c A' d) (hb : Below W.heap.size W W') : BoxK W' y B A c A' d := ⟨(hb.block _ (blk_lt h.blk)).trans h.blk, kV.K_below hb h.kv⟩
theorem boxK_new {W : World} {lo : Nat} {y : JV} {A : Option Addr} {c : Nat} {A' : Option Addr} {d : Nat} (hM : kV.M W lo (fun _ => True) y (y.cells (.slice A y.list.length c) (.slice A' y.fields.length d))) :
    BoxK ((W.alloc (.cells zA8 27)).setRow W.heap.size (vA y A c A' d)) y W.heap.size A c A' d ∧ Below W.heap.size W ((W.alloc (.cells zA8 27)).setRow W.heap.size (vA y A c A' d)) := by
  have hb : Below W.heap.size W ((W.alloc (.cells zA8 27)).setRow W.heap.size (vA y A c A' d)) := low_rowV ((Below.refl _ W).alloc (Nat.le_refl _) _) (Nat.le_refl _)
  exact ⟨⟨setRow_heap (W.alloc (.cells zA8 27)) W.heap.size _ _ _ _ (heap_alloc_new W _), kV.K_below hb (kV.K_of_M hM)⟩, hb⟩
theorem turned_below {a b n : Nat} {w W W' : World} (h : Turning a b W W') (hL : Below n w W) (ha : n ≤ a) : Below n w W' :=
  ⟨h.os.trans hL.os, h.tape.trans hL.tape, h.output.trans hL.output, by rw [h.size]; exact hL.size, fun k hk => (h.out k (by omega)).trans (hL.block k hk)⟩
/-- Four values' cells, behind each other. -/
def arr4 (a b c d : Array Value) : Array Value := #[a.getD 0 undef, a.getD 1 undef, a.getD 2 undef, a.getD 3 undef, a.getD 4 undef, a.getD 5 undef, a.getD 6 undef, a.getD 7 undef, b.getD 0 undef, b.getD 1 undef, b.getD 2 undef, b.getD 3 undef, b.getD 4 undef, b.getD 5 undef, b.getD 6 undef, b.getD 7 undef, c.getD 0 undef, c.getD 1 undef, c.getD 2 undef, c.getD 3 undef, c.getD 4 undef, c.getD 5 undef, c.getD 6 undef, c.getD 7 undef, d.getD 0 undef, d.getD 1 undef, d.getD 2 undef, d.getD 3 undef, d.getD 4 undef, d.getD 5 undef, d.getD 6 undef, d.getD 7 undef]
theorem apart4 {W : World} {base l1 h1 l2 h2 l3 h3 l4 h4 : Nat} {y1 y2 y3 y4 : JV} {B1 B2 B3 B4 : Nat} {A1 A1' A2 A2' A3 A3' A4 A4' : Option Addr} {c1 d1 c2 d2 c3 d3 c4 d4 : Nat} {S1 S2 S3 S4 : List Nat}
    (b1 : BoxA W l1 h1 y1 B1 A1 c1 A1' d1 S1) (b2 : BoxA W l2 h2 y2 B2 A2 c2 A2' d2 S2) (b3 : BoxA W l3 h3 y3 B3 A3 c3 A3' d3 S3) (b4 : BoxA W l4 h4 y4 B4 A4 c4 A4' d4 S4)
    (e1 : base ≤ l1) (e2 : h1 ≤ l2) (e3 : h2 ≤ l3) (e4 : h3 ≤ l4) (f1 : l1 ≤ h1) (f2 : l2 ≤ h2) (f3 : l3 ≤ h3) (hbw : base ≤ W.heap.size) (hwt : y1.wt + y2.wt + y3.wt + y4.wt ≤ 1073741820) (hin : y1.ints ∧ y2.ints ∧ y3.ints ∧ y4.ints) :
    Calls Tryz.prog 20 #[.slice (some ⟨W.heap.size, 0, none⟩) 4 4] (W.alloc (.cells (arr4 (vA y1 A1 c1 A1' d1) (vA y2 A2 c2 A2' d2) (vA y3 A3 c3 A3' d3) (vA y4 A4 c4 A4' d4)) 27)) fun e w' => e = .returned (.bool true) ∧ Below base W w' := by
  have hb := (Below.refl W.heap.size W).alloc (Nat.le_refl _) (.cells (arr4 (vA y1 A1 c1 A1' d1) (vA y2 A2 c2 A2' d2) (vA y3 A3 c3 A3' d3) (vA y4 A4 c4 A4' d4)) 27)
  have hblk := heap_alloc_new W (.cells (arr4 (vA y1 A1 c1 A1' d1) (vA y2 A2 c2 A2' d2) (vA y3 A3 c3 A3' d3) (vA y4 A4 c4 A4' d4)) 27)
  have hsz : ∀ {l h y B A c A' d S}, BoxA W l h y B A c A' d S → h < W.heap.size := fun q => by have := blk_lt q.blk; have := q.le; omega
  have hmv : ∀ {l h y B A c A' d S}, BoxA W l h y B A c A' d S → AP (W.alloc (.cells (arr4 (vA y1 A1 c1 A1' d1) (vA y2 A2 c2 A2' d2) (vA y3 A3 c3 A3' d3) (vA y4 A4 c4 A4' d4)) 27)) y (y.cells (.slice A y.list.length c) (.slice A' y.fields.length d)) S := fun q => AP_move _ q.ap (fun k hk => hb.block k (by have := (q.bd k hk).2; have := hsz q; omega))
  have g1 := hsz b1
  have g2 := hsz b2
  have g3 := hsz b3
  have g4 := hsz b4
  have hA : APL (W.alloc (.cells (arr4 (vA y1 A1 c1 A1' d1) (vA y2 A2 c2 A2' d2) (vA y3 A3 c3 A3' d3) (vA y4 A4 c4 A4' d4)) 27)) [y1, y2, y3, y4] (arr4 (vA y1 A1 c1 A1' d1) (vA y2 A2 c2 A2' d2) (vA y3 A3 c3 A3' d3) (vA y4 A4 c4 A4' d4)).toList (S1 ++ (S2 ++ (S3 ++ (S4 ++ [])))) := by
    rw [APL]
    refine ⟨S1, _, hmv b1, ?_, rfl⟩
    rw [APL]
    refine ⟨S2, _, hmv b2, ?_, rfl⟩
    rw [APL]
    refine ⟨S3, _, hmv b3, ?_, rfl⟩
    rw [APL]
    refine ⟨S4, _, hmv b4, ?_, rfl⟩
    rw [APL]
  have hN : (S1 ++ (S2 ++ (S3 ++ (S4 ++ [])))).Nodup := by
    rw [List.append_nil]
    refine List.nodup_append.2 ⟨b1.nd, List.nodup_append.2 ⟨b2.nd, List.nodup_append.2 ⟨b3.nd, b4.nd, ?_⟩, ?_⟩, ?_⟩
    · intro a ha b hb' he
      have := (b3.bd a ha).2
      have := (b4.bd b hb').1
      omega
    · intro a ha b hb' he
      have := (b2.bd a ha).2
      rcases List.mem_append.1 hb' with h | h
      · have := (b3.bd b h).1; omega
      · have := (b4.bd b h).1; omega
    · intro a ha b hb' he
      have := (b1.bd a ha).2
      rcases List.mem_append.1 hb' with h | h
      · have := (b2.bd b h).1; omega
      rcases List.mem_append.1 h with h | h
      · have := (b3.bd b h).1; omega
      · have := (b4.bd b h).1; omega
  have hS : ∀ k ∈ S1 ++ (S2 ++ (S3 ++ (S4 ++ []))), base ≤ k := fun k hk => by
    rw [List.append_nil] at hk
    rcases List.mem_append.1 hk with h | h
    · have := (b1.bd k h).1; omega
    rcases List.mem_append.1 h with h | h
    · have := (b2.bd k h).1; omega
    rcases List.mem_append.1 h with h | h
    · have := (b3.bd k h).1; omega
    · have := (b4.bd k h).1; omega
  have hC : kV.C (W.alloc (.cells (arr4 (vA y1 A1 c1 A1' d1) (vA y2 A2 c2 A2' d2) (vA y3 A3 c3 A3' d3) (vA y4 A4 c4 A4' d4)) 27)) (some ⟨W.heap.size, 0, none⟩) 4 [y1, y2, y3, y4] := by
    refine ⟨rfl, by decide, fun _ => ⟨_, rfl, fun j p hj => ?_⟩⟩
    have hc := World.news_of_block hblk
    match j, hj with
    | 0, hj => injection hj with hj; subst hj; exact ⟨_, rfl, kV.K_below hb b1.kv, fun i u hi => hc (0 * 8 + i) u (by match i, hi with | 0, h => exact h | 1, h => exact h | 2, h => exact h | 3, h => exact h | 4, h => exact h | 5, h => exact h | 6, h => exact h | 7, h => exact h)⟩
    | 1, hj => injection hj with hj; subst hj; exact ⟨_, rfl, kV.K_below hb b2.kv, fun i u hi => hc (1 * 8 + i) u (by match i, hi with | 0, h => exact h | 1, h => exact h | 2, h => exact h | 3, h => exact h | 4, h => exact h | 5, h => exact h | 6, h => exact h | 7, h => exact h)⟩
    | 2, hj => injection hj with hj; subst hj; exact ⟨_, rfl, kV.K_below hb b3.kv, fun i u hi => hc (2 * 8 + i) u (by match i, hi with | 0, h => exact h | 1, h => exact h | 2, h => exact h | 3, h => exact h | 4, h => exact h | 5, h => exact h | 6, h => exact h | 7, h => exact h)⟩
    | 3, hj => injection hj with hj; subst hj; exact ⟨_, rfl, kV.K_below hb b4.kv, fun i u hi => hc (3 * 8 + i) u (by match i, hi with | 0, h => exact h | 1, h => exact h | 2, h => exact h | 3, h => exact h | 4, h => exact h | 5, h => exact h | 6, h => exact h | 7, h => exact h)⟩
  refine (apart_any _ base _ 4 4 W.heap.size [y1, y2, y3, y4] _ _ hC ⟨4, rfl, hblk, Nat.le_refl _, by decide, rfl⟩ hA hN hS (by simp; omega) ?_ ?_).mono ?_
  · simp only [JV.wtL]; omega
  · simp only [JV.intsL]; exact ⟨hin.1, hin.2.1, hin.2.2.1, hin.2.2.2, trivial⟩
  · rintro e w' ⟨rfl, hb'⟩
    exact ⟨rfl, (hb.mono hbw).trans hb'⟩
end Go.Proofs.YtkdeleafgailhaaGreatDoor
end
section
set_option linter.unusedVariables false
set_option linter.unusedSimpArgs false
namespace Go.Proofs.YtkdeleafgailhaaGreatDoor
open Go Go.RowKit Go.Proofs.YtkdeleafgailhaaGreatDoorW.PrintWords

theorem eq_err (a : Addr) (W : World) : (binOp .eql 51 (.iface 228 (.pointer (some a))) (.iface 228 (.pointer (some a)))).run Tryz.prog W = .ok (.bool true) W := by
  obtain ⟨i, hi, hc⟩ := Option.map_eq_some_iff.1 (show (Tryz.prog.info? 228).map (·.comparable) = some true by kernel_rfl)
  obtain ⟨j, hj, _⟩ := Option.map_eq_some_iff.1 (show (Tryz.prog.info? 230).map (·.size) = some 1 by kernel_rfl)
  exact run_eql_iface_ptr_same W a Tryz.underlying51 Tryz.underlying228 hi hc hj

set_option maxRecDepth 100000 in
set_option maxHeartbeats 4000000 in
theorem place_any (at_ : Int) (a : Addr) (v : Value) (w : World) (hv : IsFault v at_ (ev a) w) (hE : w.cell? ⟨4, 0, none⟩ = some (.iface 167 (.agg #[typeHandle Tryz.prog 51]))) :
    Calls Tryz.prog 28 #[v] w fun e w' => e = .returned (.tuple #[.int .i64 at_, .iface 228 (.pointer (some a))]) ∧ Below w.heap.size w w' := by
  obtain ⟨k, rfl, hk⟩ := hv
  have hB := (Below.refl w.heap.size w).alloc (Nat.le_refl _) (.cells #[.pointer none] 94)
  have hn := heap_alloc_new w (.cells #[.pointer none] 94)
  have hE1 := pw_cell_below hB hE
  have hk1 := (hB.block k (blk_lt hk)).trans hk
  have hne : some k ≠ some w.heap.size := by intro e; injection e with e; have := blk_lt hk; omega
  have cA := as_fault k w.heap.size _ hn hE1
  replace hB := Aside0.mk hB
  replace hk1 := Aside0.mk hk1
  clear hn hE1 hk hE
  go_enter Tryz.func28, Tryz.ntmps28
  go_wp2_with (go_at_call 59; refine cA.mono ?_; rintro e w3 ⟨rfl, hf3, hW3⟩; have hcf := cellAll hf3; have hk3 := (hW3.block _ (blk_lt hk1.out) hne).trans hk1.out; have hck := cellAll hk3; have hB3 := Aside0.mk (hB.out.trans (hW3.below (Nat.le_refl _) hB.out.size)); replace hf3 := Aside0.mk hf3; replace hk3 := Aside0.mk hk3; unfold ev at hck)
  go_quiet (fail)
  go_wp2_with fail
  go_ret2
  exact ⟨rfl, pw_below_drewN hB3.out _⟩
end Go.Proofs.YtkdeleafgailhaaGreatDoor
end
section
set_option linter.unusedVariables false
set_option linter.unusedSimpArgs false
namespace Go.Proofs.YtkdeleafgailhaaGreatDoor
open Go Go.RowKit Go.Proofs.YtkdeleafgailhaaGreatDoorW.PrintWords

theorem parse1_any (E : ErrV) (w : World) (hP : PEnv E w) : Calls Tryz.prog 27 #[.string ⟨#[32, 123, 34, 98, 34, 32, 58, 32, 91, 49, 46, 53, 48, 44, 32, 45, 48, 93, 44, 32, 34, 97, 34, 58, 34, 92, 117, 48, 48, 101, 57, 92, 47, 34, 125]⟩] w fun e w' => ParseGives E w (.ok val1 35) e w' := by
  have h := parse_any E text1 w (by decide) hP
  rw [parse1] at h
  exact h
theorem parse2_any (E : ErrV) (w : World) (hP : PEnv E w) : Calls Tryz.prog 27 #[.string ⟨#[91, 49, 44, 93]⟩] w fun e w' => ∃ v, e = .returned (.tuple #[.agg nulCells.toArray, v]) ∧ IsFault v 3 (ev E.due) w' ∧ Below w.heap.size w w' := by
  have h := parse_any E text2 w (by decide) hP
  rw [parse2] at h
  exact h
theorem print1_any (x : JV) (w : World) (cs : List Value) (hK : kV.K w x cs) (hF : Facts w) (hwt : x.wt ≤ 1073741824) (hin : x.ints) (hp : (⟨x.print.toArray⟩ : ByteArray) = print1) :
    Calls Tryz.prog 29 #[.agg cs.toArray] w fun e w' => e = .returned (.string ⟨#[123, 34, 97, 34, 58, 34, 195, 169, 47, 34, 44, 34, 98, 34, 58, 91, 49, 53, 101, 45, 49, 44, 48, 93, 125]⟩) ∧ Below w.heap.size w w' := by
  have h := print_any x w cs hK hF hwt hin
  rw [hp] at h
  exact h
theorem ints_num0 : num0.ints := by
  unfold num0
  rw [JV.ints, JV.intsL, JV.intsF]
  exact ⟨by omega, by omega, trivial, trivial⟩
theorem same0_any (x : JV) (w : World) (cs : List Value) (hK : kV.K w x cs) (hF : Facts w) (hwt : x.wt ≤ 1073741824) (hin : x.ints) (hp : x.print = num0.print) :
    Calls Tryz.prog 30 #[.agg cs.toArray, .agg #[.int .i64 2, .bool false, .bool false, .string ⟨#[]⟩, .int .i64 0, .string ⟨#[]⟩, .slice none 0 0, .slice none 0 0]] w fun e w' => e = .returned (.bool true) ∧ Below w.heap.size w w' := by
  have hM : kV.M w w.heap.size (fun _ => True) num0 (num0.cells (.slice none 0 0) (.slice none 0 0)) := kV_mkM (R_nilV _ _ _) (R_nilF _ _ _)
  have h := same_any x num0 w cs _ hK (kV.K_of_M hM) hF hwt hin (by decide +kernel) ints_num0
  rw [decide_eq_true hp] at h
  exact h
def odd9 : JV := .mk 9 false false ⟨#[]⟩ 0 ⟨#[120]⟩ [] []
theorem norm_odd9 : odd9.norm = JV.nul := by kernel_rfl
theorem norm9_any (w : World) (hF : Facts w) : Calls Tryz.prog 9 #[.agg #[.int .i64 9, .bool false, .bool false, .string ⟨#[]⟩, .int .i64 0, .string ⟨#[120]⟩, .slice none 0 0, .slice none 0 0]] w fun e w' => ∃ A c B d, e = .returned (.agg #[.int .i64 0, .bool false, .bool false, .string ⟨#[]⟩, .int .i64 0, .string ⟨#[]⟩, .slice A 0 c, .slice B 0 d]) ∧ Below w.heap.size w w' := by
  have hM : kV.M w w.heap.size (fun _ => True) odd9 (odd9.cells (.slice none 0 0) (.slice none 0 0)) := kV_mkM (R_nilV _ _ _) (R_nilF _ _ _)
  have h := norm_any odd9 w _ (kV.K_of_M hM) hF (by decide +kernel) (by unfold odd9; rw [JV.ints, JV.intsL, JV.intsF]; exact ⟨by omega, by omega, trivial, trivial⟩)
  rw [norm_odd9] at h
  refine h.mono ?_
  rintro e w' ⟨cs, rfl, hM2, hb⟩
  obtain ⟨l, f, rfl, hl, hf⟩ := kV_openM hM2
  obtain ⟨A, c, rfl⟩ := Kd.R_slice hl
  obtain ⟨B, d, rfl⟩ := Kd.R_slice hf
  exact ⟨A, c, B, d, rfl, hb⟩
theorem field0 (k : Int) (t ng : Bool) (ds tx : ByteArray) (ex : Int) (A B : Option Addr) (n c m d : Nat) (W : World) : (Instr.field 27 (.agg #[.int .i64 k, .bool t, .bool ng, .string ds, .int .i64 ex, .string tx, .slice A n c, .slice B m d]) 0).run Tryz.prog W = .ok (.int .i64 k) W := by kernel_rfl
theorem ints_get1 : (JV.mk 4 false false ⟨#[]⟩ 0 ⟨#[]⟩ [num15, num0] []).ints := by
  unfold num15 num0
  simp [JV.ints, JV.intsL, JV.intsF]
theorem ints_val1 : val1.ints := by
  unfold val1 num15 num0
  simp [JV.ints, JV.intsL, JV.intsF]

set_option maxRecDepth 100000 in
set_option maxHeartbeats 8000000 in
/-- **voyagelaw02.awake.** -/
theorem awake_any (E : ErrV) (w : World) (hP : PEnv E w) : Calls Tryz.prog 7 #[] w fun e w' => e = .returned (.bool true) ∧ Below w.heap.size w w' := by
  have cP1 := Aside0.mk (parse1_any E w hP)
  have hwt1 := wt1
  have hi1 := ints_val1
  have hpr := Aside0.mk printed1
  have hdp := Aside0.mk deep1
  have hget := Aside0.mk get1
  generalize val1 = x1 at *
  have hwt7 : (JV.mk 4 false false ⟨#[]⟩ 0 ⟨#[]⟩ [num15, num0] []).wt ≤ 100 := by decide +kernel
  have hi7 := ints_get1
  have hat := Aside0.mk at1
  generalize (JV.mk 4 false false ⟨#[]⟩ 0 ⟨#[]⟩ [num15, num0] []) = x7 at *
  have hwt9 : num0.wt ≤ 100 := by decide +kernel
  have hi9 := ints_num0
  obtain ⟨x9, hx9⟩ : ∃ x9, num0 = x9 := ⟨_, rfl⟩
  have hsm : Aside0 (x9.print = num0.print) := ⟨by rw [hx9]⟩
  rw [hx9] at hat hwt9 hi9
  clear hx9
  replace hP := Aside0.mk hP
  have heq := fun W => eq_err E.due W
  have hfld := field0
  go_enter Tryz.func7, Tryz.ntmps7
  go_wp2_with (first
    | (go_at_call 9; refine cN.out.mono ?_; clear cN; rintro e w9 ⟨An, cn, Bn, dn, rfl, hb9⟩; have hL9 := Aside0.mk (hL8.out.trans (hb9.mono hL8.out.size)))
    | (go_at_call 30; refine cS.out.mono ?_; clear cS; rintro e w8 ⟨rfl, hb8⟩; have hL8 := Aside0.mk (hL7.out.trans (hb8.mono hL7.out.size)); have cN := Aside0.mk (norm9_any w8 (hP.out.below hL8.out).facts))
    | (go_at_call 12; refine cD.out.mono ?_; clear cD; rintro e w7 ⟨rfl, hb7⟩; rw [hdp.out]; have hL7 := Aside0.mk (hL6.out.trans (hb7.mono hL6.out.size)); have hj7 := Aside0.mk ((hb7.block _ (blk_lt hj6.out)).trans hj6.out); have hc7 := cellAll hj7.out; have hd7 := (hP.out.below hL7.out).errs.due_cell; have hKj := Aside0.mk (kV.K_below hb7 hKi.out); have cS := Aside0.mk (same0_any x9 _ _ hKj.out (hP.out.below hL7.out).facts (by omega) hi9 hsm.out); clear hc6)
    | (go_at_call 29; refine cPr.out.mono ?_; clear cPr; rintro e w6 ⟨rfl, hb6⟩; have hL6 := Aside0.mk (hL5.out.trans (hb6.mono hL5.out.size)); have hk6 := Aside0.mk ((hb6.block _ (blk_lt hk5.out)).trans hk5.out); have hj6 := Aside0.mk ((hb6.block _ (blk_lt hj5.out)).trans hj5.out); have hc6 := cellAll hk6.out; have hKh := Aside0.mk (kV.K_below hb6 hKf.out); have hKi := Aside0.mk (kV.K_below hb6 hKg.out); have cD := Aside0.mk (depth_any x1 _ _ hKh.out (hP.out.below hL6.out).facts (by omega) hi1); clear hc5)
    | (go_at_call 11; refine cA.out.mono ?_; clear cA; rintro e w5 hG5; rw [hat.out] at hG5; obtain ⟨cs9, rfl, hM9, hb5⟩ := hG5; simp only at hM9; obtain ⟨l9, f9, rfl, hRl9, hRf9⟩ := kV_openM hM9; obtain ⟨A9, c9, rfl⟩ := Kd.R_slice hRl9; obtain ⟨B9, d9, rfl⟩ := Kd.R_slice hRf9; clear hRl9 hRf9; have hK9 := kV.K_of_M hM9; clear hM9; unfold JV.cells at hK9 ⊢; have hB5 := (Below.refl w5.heap.size w5).alloc (Nat.le_refl _) (.cells #[.int .i64 x9.kind, .bool x9.truth, .bool x9.neg, .string x9.digits, .int .i64 x9.exp, .string x9.text, .slice A9 x9.list.length c9, .slice B9 x9.fields.length d9] 27); have hL5 := Aside0.mk (hL4.out.trans ((hb5.trans (hB5.mono hb5.size)).mono hL4.out.size)); have hk5 := Aside0.mk ((hB5.block _ (blk_lt ((hb5.block _ (blk_lt hk4.out)).trans hk4.out))).trans ((hb5.block _ (blk_lt hk4.out)).trans hk4.out)); have hc5 := cellAll hk5.out; have hKf := Aside0.mk (kV.K_below hB5 (kV.K_below hb5 hKd.out)); have hKg := Aside0.mk (kV.K_below hB5 hK9); have hj5 := Aside0.mk (heap_alloc_new w5 (.cells #[.int .i64 x9.kind, .bool x9.truth, .bool x9.neg, .string x9.digits, .int .i64 x9.exp, .string x9.text, .slice A9 x9.list.length c9, .slice B9 x9.fields.length d9] 27)); have cPr := Aside0.mk (print1_any x1 _ _ hKf.out (hP.out.below hL5.out).facts (by omega) hi1 hpr.out); clear hB5 hK9)
    | (go_at_call 10; refine cG.out.mono ?_; clear cG; rintro e w4 hG4; rw [hget.out] at hG4; obtain ⟨cs7, rfl, hM7, hb4⟩ := hG4; simp only at hM7; obtain ⟨l7, f7, rfl, hRl7, hRf7⟩ := kV_openM hM7; obtain ⟨A7, c7, rfl⟩ := Kd.R_slice hRl7; obtain ⟨B7, d7, rfl⟩ := Kd.R_slice hRf7; clear hRl7 hRf7; have hK7 := kV.K_of_M hM7; clear hM7; unfold JV.cells at hK7 ⊢; have hB4 := (Below.refl w4.heap.size w4).alloc (Nat.le_refl _) (.cells #[.int .i64 x7.kind, .bool x7.truth, .bool x7.neg, .string x7.digits, .int .i64 x7.exp, .string x7.text, .slice A7 x7.list.length c7, .slice B7 x7.fields.length d7] 27); have hL4 := Aside0.mk (hL3.out.trans ((hb4.trans (hB4.mono hb4.size)).mono hL3.out.size)); have hk4 := Aside0.mk ((hB4.block _ (blk_lt ((hb4.block _ (blk_lt hk3.out)).trans hk3.out))).trans ((hb4.block _ (blk_lt hk3.out)).trans hk3.out)); have hKd := Aside0.mk (kV.K_below hB4 (kV.K_below hb4 hKc.out)); have hKe := Aside0.mk (kV.K_below hB4 hK7); have cA := Aside0.mk (at_any x7 1 _ _ hKe.out (hP.out.below hL4.out).facts (by omega) hi7); clear hB4 hK7 hc3)
    | (go_at_call 28; refine cPl.out.mono ?_; clear cPl; rintro e w3 ⟨rfl, hb3⟩; have hL3 := Aside0.mk (hL2.out.trans (hb3.mono hL2.out.size)); have hk3 := Aside0.mk ((hb3.block _ (blk_lt hk2.out)).trans hk2.out); have hc3 := cellAll hk3.out; have hKc := Aside0.mk (kV.K_below hb3 hKb.out); have cG := Aside0.mk (get_any x1 ⟨#[98]⟩ w3 _ hKc.out (hP.out.below hL3.out).facts (by decide) (by omega) hi1))
    | (go_at_call 27; refine cP2.out.mono ?_; clear cP2; rintro e w2 ⟨v2, rfl, hF2, hb2⟩; have hB2 := (Below.refl w2.heap.size w2).alloc (Nat.le_refl _) (.cells #[.int .i64 0, .bool false, .bool false, .string ⟨#[]⟩, .int .i64 0, .string ⟨#[]⟩, .slice none 0 0, .slice none 0 0] 27); have hL2 := Aside0.mk (hL1.out.trans ((hb2.trans (hB2.mono hb2.size)).mono hL1.out.size)); have hk2 := Aside0.mk ((hB2.block _ (blk_lt ((hb2.block _ (blk_lt hk1.out)).trans hk1.out))).trans ((hb2.block _ (blk_lt hk1.out)).trans hk1.out)); have hKb := Aside0.mk (kV.K_below hB2 (kV.K_below hb2 hKa.out)); have cPl := Aside0.mk (place_any 3 E.due v2 _ (hF2.below hB2) (hP.out.below hL2.out).et); unfold nulCells; clear hB2 hF2)
    | (go_at_call 27; refine cP1.out.mono ?_; clear cP1; rintro e w1 ⟨cs1, rfl, hM1, hb1⟩; obtain ⟨l1, f1, rfl, hRl1, hRf1⟩ := kV_openM hM1; obtain ⟨A1, c1, rfl⟩ := Kd.R_slice hRl1; obtain ⟨B1, d1, rfl⟩ := Kd.R_slice hRf1; clear hRl1 hRf1; have hK1 := kV.K_of_M hM1; clear hM1; unfold JV.cells at hK1 ⊢; have hB1 := (Below.refl w1.heap.size w1).alloc (Nat.le_refl _) (.cells #[.int .i64 x1.kind, .bool x1.truth, .bool x1.neg, .string x1.digits, .int .i64 x1.exp, .string x1.text, .slice A1 x1.list.length c1, .slice B1 x1.fields.length d1] 27); have hk1 := Aside0.mk (heap_alloc_new w1 (.cells #[.int .i64 x1.kind, .bool x1.truth, .bool x1.neg, .string x1.digits, .int .i64 x1.exp, .string x1.text, .slice A1 x1.list.length c1, .slice B1 x1.fields.length d1] 27)); have hL1 := Aside0.mk (hb1.trans (hB1.mono hb1.size)); have hKa := Aside0.mk (kV.K_below hB1 hK1); have hz1 := Aside0.mk hb1.size; have cP2 := Aside0.mk (parse2_any E _ (hP.out.below hL1.out)); clear hK1 hB1))
  go_ret
  exact ⟨rfl, hL9.out⟩
end Go.Proofs.YtkdeleafgailhaaGreatDoor
end
