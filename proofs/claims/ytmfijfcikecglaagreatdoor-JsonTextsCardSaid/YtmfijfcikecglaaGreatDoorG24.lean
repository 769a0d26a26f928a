/- voyageref02.Norm at lists. voyageref02.Norm at objects. voyageref02.Like: values whose heads are one; Like, whole. voyageref02.Norm is JV.norm; voyageref02.Same. There and back, plainly: the one form of values. -/
import Derived.Test.YtmfijfcikecglaaGreatDoorG23
import Derived.Test.YtmfijfcikecglaaGreatDoorG22
import Derived.Test.YtmfijfcikecglaaGreatDoorG19
section
set_option linter.unusedVariables false
set_option linter.unusedSimpArgs false
namespace Go.Proofs.YtmfijfcikecglaaGreatDoor
open Go Go.RowKit Go.Proofs.YtmfijfcikecglaaGreatDoorW.PrintWords

theorem set_far {B : Nat} {a w : World} (h : Below B a w) {b j : Nat} (hb : B ≤ b) (v : Value) : Below B a (w.setCell ⟨b, j, none⟩ v) := h.setCell (by simpa using hb) _

set_option maxRecDepth 100000 in
set_option maxHeartbeats 8000000 in
theorem rnorm_list (w : World) (t ng : Bool) (ds tx : ByteArray) (ex : Int) (A B : Option Addr) (nl c nf d : Nat) (xs : List JV) (hC : kV.C w A nl xs) (hnc : nl ≤ c) (hok : ∀ y ∈ xs, RNormOK y) (hwt : JV.wtL xs ≤ 4294967296) (hin : JV.intsL xs) :
    Calls Tryz.prog 23 #[.agg #[.int .i64 4, .bool t, .bool ng, .string ds, .int .i64 ex, .string tx, .slice A nl c, .slice B nf d]] w fun e w' => ∃ cs', e = .returned (.agg cs'.toArray) ∧ kV.M w' w.heap.size (fun _ => True) (.mk 4 false false ⟨#[]⟩ 0 ⟨#[]⟩ (JV.normL xs) []) cs' ∧ Below w.heap.size w w' := by
  have hB0 := ((Below.refl _ w).alloc (Nat.le_refl _) (.cells #[.int .i64 4, .bool t, .bool ng, .string ds, .int .i64 ex, .string tx, .slice A nl c, .slice B nf d] 27)).alloc (by simp) (.cells #[.int .i64 0, .bool false, .bool false, .string ⟨#[]⟩, .int .i64 0, .string ⟨#[]⟩, .slice none 0 0, .slice none 0 0] 27)
  have hlen := hC.1
  have hll := wtL_len xs
  have hnl : nl ≤ 4294967296 := by omega
  obtain ⟨e0, e1⟩ := boxes' w (.cells #[.int .i64 4, .bool t, .bool ng, .string ds, .int .i64 ex, .string tx, .slice A nl c, .slice B nf d] 27) (.cells #[.int .i64 0, .bool false, .bool false, .string ⟨#[]⟩, .int .i64 0, .string ⟨#[]⟩, .slice none 0 0, .slice none 0 0] 27)
  go_enter Tryz.func23, Tryz.ntmps23
  go_wp2_with fail
  obtain ⟨W3, hW3⟩ : ∃ W3, (((w.alloc (.cells #[.int .i64 4, .bool t, .bool ng, .string ds, .int .i64 ex, .string tx, .slice A nl c, .slice B nf d] 27)).alloc (.cells #[.int .i64 0, .bool false, .bool false, .string ⟨#[]⟩, .int .i64 0, .string ⟨#[]⟩, .slice none 0 0, .slice none 0 0] 27)).alloc (.cells #[.int .i64 4, .bool false, .bool false, .string ⟨#[]⟩, .int .i64 0, .string ⟨#[]⟩, .slice none 0 0, .slice none 0 0] 27)) = W3 := ⟨_, rfl⟩
  have f2 := heap_alloc_new ((w.alloc (.cells #[.int .i64 4, .bool t, .bool ng, .string ds, .int .i64 ex, .string tx, .slice A nl c, .slice B nf d] 27)).alloc (.cells #[.int .i64 0, .bool false, .bool false, .string ⟨#[]⟩, .int .i64 0, .string ⟨#[]⟩, .slice none 0 0, .slice none 0 0] 27)) (.cells #[.int .i64 4, .bool false, .bool false, .string ⟨#[]⟩, .int .i64 0, .string ⟨#[]⟩, .slice none 0 0, .slice none 0 0] 27)
  have f0 := (heap_alloc_old _ (.cells #[.int .i64 4, .bool false, .bool false, .string ⟨#[]⟩, .int .i64 0, .string ⟨#[]⟩, .slice none 0 0, .slice none 0 0] 27) (blk_lt e0)).trans e0
  have f1 := (heap_alloc_old _ (.cells #[.int .i64 4, .bool false, .bool false, .string ⟨#[]⟩, .int .i64 0, .string ⟨#[]⟩, .slice none 0 0, .slice none 0 0] 27) (blk_lt e1)).trans e1
  have hB3 := hB0.alloc (by simp; omega) (.cells #[.int .i64 4, .bool false, .bool false, .string ⟨#[]⟩, .int .i64 0, .string ⟨#[]⟩, .slice none 0 0, .slice none 0 0] 27)
  have hs2 : ((w.alloc (.cells #[.int .i64 4, .bool t, .bool ng, .string ds, .int .i64 ex, .string tx, .slice A nl c, .slice B nf d] 27)).alloc (.cells #[.int .i64 0, .bool false, .bool false, .string ⟨#[]⟩, .int .i64 0, .string ⟨#[]⟩, .slice none 0 0, .slice none 0 0] 27)).heap.size = w.heap.size + 1 + 1 := by simp
  have hs3 : W3.heap.size = w.heap.size + 3 := by rw [← hW3]; simp
  rw [hs2] at f2
  rw [hW3] at f0 f1 f2 hB3 ⊢
  clear hW3 hs2 e0 e1 hB0
  replace hlen := Aside0.mk hlen
  replace f0 := Aside0.mk f0
  replace f1 := Aside0.mk f1
  replace f2 := Aside0.mk f2
  replace hB3 := Aside0.mk hB3
  go_loopw [4] (fun i wr => ∃ (j : Nat) (v : Value), i = .int .i64 j ∧ j ≤ nl ∧ wr.heap[w.heap.size + 1 + 1]? = some (.cells #[.int .i64 4, .bool false, .bool false, .string ⟨#[]⟩, .int .i64 0, .string ⟨#[]⟩, v, .slice none 0 0] 27 (0, 0)) ∧ kV.R 27 wr (w.heap.size + 3) (fun _ => True) v ((xs.take j).map JV.norm) ∧ Below (w.heap.size + 2) W3 wr) (fun i _ => nl - (intOf i).toNat)
  case atStart => exact ⟨0, _, rfl, Nat.zero_le _, f2.out, R_nilV _ _ _, Below.refl _ _⟩
  case round =>
    obtain ⟨j, v, rfl, hj, hbx, hR, hB⟩ := hrel
    obtain ⟨VA, vc, hv⟩ := Kd.R_slice hR
    rw [show ((xs.take j).map JV.norm).length = j by rw [List.length_map, List.length_take, hlen.out]; omega] at hv
    subst hv
    have hbf := (hB.block w.heap.size (by omega)).trans f0.out
    have hcf := cellAll hbf
    have hcx := cellAll hbx
    have hfx := frozenAll hbx
    have hBw : Below w.heap.size w wr := hB3.out.trans (hB.mono (by omega))
    by_cases hlt : j < nl
    · obtain ⟨ad, x, A6, c6, A7, c7, rfl, hx, hcs, l6, g6, l7, g7⟩ := at_V hC j hlt
      have hK := kV_mkK l6 g6 l7 g7
      unfold JV.cells at hcs hK
      obtain ⟨q0, q1, q2, q3, q4, q5, q6, q7, _⟩ := hcs
      have hxm : x ∈ xs := List.mem_of_getElem? hx
      have hnx := hok x hxm
      have hwx := wt_memL hxm
      have hix := ints_memL hxm hin
      have cN := fun (W : World) (hb : Below w.heap.size w W) => hnx W _ (kV.K_below hb hK) (by omega) hix
      have hSof : ∀ W, Below (w.heap.size + 2) wr W → W.cell? ⟨w.heap.size, 6, none⟩ = some (.slice (some ad) nl c) ∧ W.cell? (ad.add (j * 8)) = some (.int .i64 x.kind) ∧ W.cell? ⟨(ad.add (j * 8)).block, (ad.add (j * 8)).off + (0 + 1), none⟩ = some (.bool x.truth) ∧ W.cell? ⟨(ad.add (j * 8)).block, (ad.add (j * 8)).off + (1 + 1), none⟩ = some (.bool x.neg) ∧ W.cell? ⟨(ad.add (j * 8)).block, (ad.add (j * 8)).off + (2 + 1), none⟩ = some (.string x.digits) ∧ W.cell? ⟨(ad.add (j * 8)).block, (ad.add (j * 8)).off + (3 + 1), none⟩ = some (.int .i64 x.exp) ∧ W.cell? ⟨(ad.add (j * 8)).block, (ad.add (j * 8)).off + (4 + 1), none⟩ = some (.string x.text) ∧ W.cell? ⟨(ad.add (j * 8)).block, (ad.add (j * 8)).off + (5 + 1), none⟩ = some (.slice A6 x.list.length c6) ∧ W.cell? ⟨(ad.add (j * 8)).block, (ad.add (j * 8)).off + (6 + 1), none⟩ = some (.slice A7 x.fields.length c7) := fun W hb => by
        have hbw := hBw.trans (hb.mono (by omega))
        refine ⟨cellAll ((hb.block w.heap.size (by omega)).trans hbf) 6, ?_, ?_, ?_, ?_, ?_, ?_, ?_, ?_⟩ <;> first | exact pw_cell_below hbw q0 | exact pw_cell_below hbw q1 | exact pw_cell_below hbw q2 | exact pw_cell_below hbw q3 | exact pw_cell_below hbw q4 | exact pw_cell_below hbw q5 | exact pw_cell_below hbw q6 | exact pw_cell_below hbw q7
      have hS0 := hSof wr (Below.refl _ _)
      have hS1 := hSof wr.drew (Below.refl _ _).drew
      have hbd : Below wr.heap.size wr wr.drew := (Below.refl _ _).drew
      have hRd := Kd.R_below hR hbd
      obtain ⟨inner, hown⟩ := Kd.R_own hRd
      have hws : w.heap.size + 3 ≤ wr.heap.size := by have := hB.size; omega
      have hj1 : (j : Int) < (nl : Int) := by omega
      have hj0 : (0 : Int) ≤ (j : Int) := by omega
      replace hR := Aside0.mk hR
      replace hRd := Aside0.mk hRd
      replace hown := Aside0.mk hown
      replace hx := Aside0.mk hx
      replace hbx := Aside0.mk hbx
      replace hbf := Aside0.mk hbf
      have hl1 : Aside0 (((xs.take j).map JV.norm ++ [x.norm]).length = j + 1) := ⟨by rw [List.length_append, List.length_map, List.length_take, hlen.out, Nat.min_eq_left hj]; rfl⟩
      clear hnx hK hxm q0 q1 q2 q3 q4 q5 q6 q7
      go_wp2_with fail
      go_region_law
        (first
          | (refine Kd.R_append_step kV (w0 := wr) (w.heap.size + 3) (by rfl) (.tmp 38) (.tmp 45) 24 27 zV 112 (by rfl) Tryz.underlying24 infoV (by rfl) (by decide) (by omega) (.slice VA j vc) ((xs.take j).map JV.norm) x.norm [.int .i64 x.norm.kind, .bool x.norm.truth, .bool x.norm.neg, .string x.norm.digits, .int .i64 x.norm.exp, .string x.norm.text, .slice Al x.norm.list.length cl, .slice Af x.norm.fields.length cf] (fun _ => True) _ (by rfl) (by rfl) hM1.out (fun _ hk => hk) (fun _ _ => trivial) hR2.out (hb4.mono hws) (by omega) ?aL ?_; (case aL => exact (by rw [List.length_map, List.length_take, hlen.out]; have : min j nl ≤ nl := Nat.min_le_right _ _; omega)); intro v1 w5 hR3 hB5 hg5 hat5; clear hat5; obtain ⟨A1, c1, hv1⟩ := Kd.R_slice hR3; rw [hl1.out] at hv1; subst hv1; have hbl5 := hbl4.grown hg5 (by omega) (fun k hk => by have := Kd.R_base hR2.out k hk; omega); have hbx5 := blk_grown hbx4.out hg5 (fun e => by have := Kd.R_base hR2.out (w.heap.size + 1 + 1) e.symm; omega); have hcx5 := cellAll hbx5; have hfx5 := frozenAll hbx5; have hS5 := hSof w5 hbl5; replace hbx5 := Aside0.mk hbx5; replace hR3 := Aside0.mk hR3)
          | (go_simp; go_at_call 23; refine (cN _ (hBw.trans (hbd.mono (by omega)))).mono ?_; rintro e w4 ⟨cs', rfl, hM, hb4'⟩; obtain ⟨vl, vf, rfl, hRl, hRf⟩ := kV_openM hM; unfold JV.cells at hM; obtain ⟨Al, cl, rfl⟩ := Kd.R_slice hRl; obtain ⟨Af, cf, rfl⟩ := Kd.R_slice hRf; unfold JV.cells; clear hRl hRf; have hM1 := kV.M_lower (base' := w.heap.size + 3) hws (Kd.M_new hM hown.out); have hR2 := Kd.R_below hRd.out hb4'; have hb4 := hbd.trans hb4'; have hbs4 := hb4.size; have hbl4 := hb4.mono (B' := w.heap.size + 2) (by omega); have hbx4 := (hb4.block _ (blk_lt hbx.out)).trans hbx.out; have hcx4 := cellAll hbx4; have hfx4 := frozenAll hbx4; have hS4 := hSof w4 hbl4; have hcxa := cellAll ((heap_alloc_old w4 (.cells #[.int .i64 x.norm.kind, .bool x.norm.truth, .bool x.norm.neg, .string x.norm.digits, .int .i64 x.norm.exp, .string x.norm.text, .slice Al x.norm.list.length cl, .slice Af x.norm.fields.length cf] 27) (blk_lt hbx4)).trans hbx4); replace hM1 := Aside0.mk hM1; replace hR2 := Aside0.mk hR2; replace hbx4 := Aside0.mk hbx4; clear hM))
      all_goals (go_wp2_with fail)
      all_goals go_roundw
      all_goals (try (case measure => first | (simp [intOf]; done) | (simp [intOf]; omega)))
      all_goals (refine ⟨j + 1, .slice A1 (j + 1) c1, by go_num, by omega, blk_set hbx5.out 6 _, ?_, set_far (hB.trans (hbl5.mono (by omega))) (by omega) _⟩)
      all_goals (rw [show (xs.take (j + 1)).map JV.norm = (xs.take j).map JV.norm ++ [x.norm] by rw [List.take_add_one, hx.out, Option.toList_some, List.map_append]; rfl])
      all_goals (exact Kd.R_mono (Kd.R_far (p := ⟨w.heap.size + 1 + 1, 6, none⟩) (ok := fun k => w.heap.size + 3 ≤ k) (Kd.R_mono (Kd.R_bound hR3.out) (fun k hk => hk.2.1)) (fun k hk => by show k ≠ w.heap.size + 1 + 1; omega) _) (fun _ _ => trivial))
    · obtain rfl : j = nl := by omega
      have hb1 := (hB.block (w.heap.size + 1) (by omega)).trans f1.out
      have hc1 := cellAll hb1
      have hf1 := frozenAll hb1
      clear hb1 hbf
      replace hR := Aside0.mk hR
      replace hbx := Aside0.mk hbx
      have hno : ¬ (j : Int) < (j : Int) := by omega
      go_wp2_with fail
      refine bodyPost_ret (v := .agg #[.int .i64 4, .bool false, .bool false, .string ⟨#[]⟩, .int .i64 0, .string ⟨#[]⟩, .slice VA j vc, .slice none 0 0]) (by simp [results, Tryz.results23, go_sem, hc1]) rfl ⟨[.int .i64 4, .bool false, .bool false, .string ⟨#[]⟩, .int .i64 0, .string ⟨#[]⟩, .slice VA j vc, .slice none 0 0], rfl, ?_, ?_⟩
      · refine kV_mkM (x := .mk 4 false false ⟨#[]⟩ 0 ⟨#[]⟩ (JV.normL xs) []) (R_setsV (W := W3) (by rw [normL_map, hs3]; have := hR.out; rw [← hlen.out, List.take_length] at this; rw [← hlen.out]; exact this) (by omega) (by omega)) (R_nilF _ _ _)
      · iterate 8 refine below_set ?_ (by omega)
        exact hBw
end Go.Proofs.YtmfijfcikecglaaGreatDoor
end
section
set_option linter.unusedVariables false
set_option linter.unusedSimpArgs false
namespace Go.Proofs.YtmfijfcikecglaaGreatDoor
open Go Go.RowKit Go.Proofs.YtmfijfcikecglaaGreatDoorW.PrintWords

theorem nine_far {w : World} {b k : Nat} (h : k ≠ b) (u0 u1 u2 u3 u4 u5 u6 u7 u8 : Value) : (((((((((w.setCell ⟨b, 0, none⟩ u0).setCell ⟨b, 1, none⟩ u1).setCell ⟨b, 2, none⟩ u2).setCell ⟨b, 3, none⟩ u3).setCell ⟨b, 4, none⟩ u4).setCell ⟨b, 5, none⟩ u5).setCell ⟨b, 6, none⟩ u6).setCell ⟨b, 7, none⟩ u7).setCell ⟨b, 8, none⟩ u8).heap[k]? = w.heap[k]? :=
  setCells_far [u0, u1, u2, u3, u4, u5, u6, u7, u8] 0 k h
theorem at_world {Q : Exit → Act → World → Prop} {e : Exit} {a : Act} {F : World} (P : World → Prop) (h : P F) (k : P F → Q e a F) : Q e a F := k h
theorem below_nine {B : Nat} {a w : World} {b : Nat} (h : Below B a w) (hb : B ≤ b) (u0 u1 u2 u3 u4 u5 u6 u7 u8 : Value) : Below B a (((((((((w.setCell ⟨b, 0, none⟩ u0).setCell ⟨b, 1, none⟩ u1).setCell ⟨b, 2, none⟩ u2).setCell ⟨b, 3, none⟩ u3).setCell ⟨b, 4, none⟩ u4).setCell ⟨b, 5, none⟩ u5).setCell ⟨b, 6, none⟩ u6).setCell ⟨b, 7, none⟩ u7).setCell ⟨b, 8, none⟩ u8) :=
  set_far (set_far (set_far (set_far (set_far (set_far (set_far (set_far (set_far h hb u0) hb u1) hb u2) hb u3) hb u4) hb u5) hb u6) hb u7) hb u8
set_option maxRecDepth 100000 in
set_option maxHeartbeats 8000000 in
theorem rnorm_fields (w : World) (t ng : Bool) (ds tx : ByteArray) (ex : Int) (A B : Option Addr) (nl c nf d : Nat) (fs : List JF) (hC : kF.C w B nf fs) (hnd : nf ≤ d) (hok : ∀ f ∈ fs, RNormOK f.value) (hwt : JV.wtF fs ≤ 4294967296) (hin : JV.intsF fs) :
    Calls Tryz.prog 23 #[.agg #[.int .i64 5, .bool t, .bool ng, .string ds, .int .i64 ex, .string tx, .slice A nl c, .slice B nf d]] w fun e w' => ∃ cs', e = .returned (.agg cs'.toArray) ∧ kV.M w' w.heap.size (fun _ => True) (.mk 5 false false ⟨#[]⟩ 0 ⟨#[]⟩ [] (JV.normF fs [])) cs' ∧ Below w.heap.size w w' := by
  have hB0 := ((Below.refl _ w).alloc (Nat.le_refl _) (.cells #[.int .i64 5, .bool t, .bool ng, .string ds, .int .i64 ex, .string tx, .slice A nl c, .slice B nf d] 27)).alloc (by simp) (.cells #[.int .i64 0, .bool false, .bool false, .string ⟨#[]⟩, .int .i64 0, .string ⟨#[]⟩, .slice none 0 0, .slice none 0 0] 27)
  have hlen := hC.1
  have hll := wtF_len fs
  have hnl : nf ≤ 4294967296 := by omega
  obtain ⟨e0, e1⟩ := boxes' w (.cells #[.int .i64 5, .bool t, .bool ng, .string ds, .int .i64 ex, .string tx, .slice A nl c, .slice B nf d] 27) (.cells #[.int .i64 0, .bool false, .bool false, .string ⟨#[]⟩, .int .i64 0, .string ⟨#[]⟩, .slice none 0 0, .slice none 0 0] 27)
  go_enter Tryz.func23, Tryz.ntmps23
  go_wp2_with fail
  obtain ⟨W3, hW3⟩ : ∃ W3, (((w.alloc (.cells #[.int .i64 5, .bool t, .bool ng, .string ds, .int .i64 ex, .string tx, .slice A nl c, .slice B nf d] 27)).alloc (.cells #[.int .i64 0, .bool false, .bool false, .string ⟨#[]⟩, .int .i64 0, .string ⟨#[]⟩, .slice none 0 0, .slice none 0 0] 27)).alloc (.cells #[.int .i64 5, .bool false, .bool false, .string ⟨#[]⟩, .int .i64 0, .string ⟨#[]⟩, .slice none 0 0, .slice none 0 0] 27)) = W3 := ⟨_, rfl⟩
  have f2 := heap_alloc_new ((w.alloc (.cells #[.int .i64 5, .bool t, .bool ng, .string ds, .int .i64 ex, .string tx, .slice A nl c, .slice B nf d] 27)).alloc (.cells #[.int .i64 0, .bool false, .bool false, .string ⟨#[]⟩, .int .i64 0, .string ⟨#[]⟩, .slice none 0 0, .slice none 0 0] 27)) (.cells #[.int .i64 5, .bool false, .bool false, .string ⟨#[]⟩, .int .i64 0, .string ⟨#[]⟩, .slice none 0 0, .slice none 0 0] 27)
  have f0 := (heap_alloc_old _ (.cells #[.int .i64 5, .bool false, .bool false, .string ⟨#[]⟩, .int .i64 0, .string ⟨#[]⟩, .slice none 0 0, .slice none 0 0] 27) (blk_lt e0)).trans e0
  have f1 := (heap_alloc_old _ (.cells #[.int .i64 5, .bool false, .bool false, .string ⟨#[]⟩, .int .i64 0, .string ⟨#[]⟩, .slice none 0 0, .slice none 0 0] 27) (blk_lt e1)).trans e1
  have hB3 := hB0.alloc (by simp; omega) (.cells #[.int .i64 5, .bool false, .bool false, .string ⟨#[]⟩, .int .i64 0, .string ⟨#[]⟩, .slice none 0 0, .slice none 0 0] 27)
  have hs2 : ((w.alloc (.cells #[.int .i64 5, .bool t, .bool ng, .string ds, .int .i64 ex, .string tx, .slice A nl c, .slice B nf d] 27)).alloc (.cells #[.int .i64 0, .bool false, .bool false, .string ⟨#[]⟩, .int .i64 0, .string ⟨#[]⟩, .slice none 0 0, .slice none 0 0] 27)).heap.size = w.heap.size + 1 + 1 := by simp
  have hs3 : W3.heap.size = w.heap.size + 3 := by rw [← hW3]; simp
  rw [hs2] at f2
  rw [hW3] at f0 f1 f2 hB3 ⊢
  clear hW3 hs2 e0 e1 hB0
  replace hlen := Aside0.mk hlen
  replace f0 := Aside0.mk f0
  replace f1 := Aside0.mk f1
  replace f2 := Aside0.mk f2
  replace hB3 := Aside0.mk hB3
  go_loopw [6] (fun i wr => ∃ (j : Nat) (v : Value), i = .int .i64 j ∧ j ≤ nf ∧ wr.heap[w.heap.size + 1 + 1]? = some (.cells #[.int .i64 5, .bool false, .bool false, .string ⟨#[]⟩, .int .i64 0, .string ⟨#[]⟩, .slice none 0 0, v] 27 (0, 0)) ∧ kF.R 68 wr (w.heap.size + 3) (fun _ => True) v (JV.normF (fs.take j) []) ∧ Below (w.heap.size + 2) W3 wr) (fun i _ => nf - (intOf i).toNat)
  case atStart => exact ⟨0, _, rfl, Nat.zero_le _, f2.out, R_nilF _ _ _, Below.refl _ _⟩
  case round =>
    obtain ⟨j, v, rfl, hj, hbx, hR, hB⟩ := hrel
    obtain ⟨VA, vc, hv⟩ := Kd.R_slice hR
    have hrise := rising_normF (fs.take j) [] rising_nil
    have hol := length_normF_le (fs.take j) []
    rw [List.length_take, hlen.out] at hol
    have hsnoc : ∀ x, fs[j]? = some x → JV.normF (fs.take (j + 1)) [] = insF (JV.normF (fs.take j) []) (clean x.name) x.value.norm := by
      rintro ⟨nm, v⟩ hx
      rw [List.take_add_one, hx, Option.toList_some, normF_app, JV.normF, JV.normF]
      rfl
    replace hsnoc := Aside0.mk hsnoc
    obtain ⟨m, hm⟩ : ∃ m, (JV.normF (fs.take j) []).length = m := ⟨_, rfl⟩
    rw [hm] at hv hol
    subst hv
    have hol2 : m ≤ 4294967296 := by have : min j nf ≤ j := Nat.min_le_left _ _; simp at hol; omega
    have hbf := (hB.block w.heap.size (by omega)).trans f0.out
    have hcf := cellAll hbf
    have hcx := cellAll hbx
    have hfx := frozenAll hbx
    have hBw : Below w.heap.size w wr := hB3.out.trans (hB.mono (by omega))
    clear hol
    by_cases hlt : j < nf
    · obtain ⟨ad, x, A6, c6, A7, c7, rfl, hx, hcs, l6, g6, l7, g7⟩ := at_F hC j hlt
      have hK := kV_mkK l6 g6 l7 g7
      unfold JV.cells at hcs hK
      obtain ⟨q0, q1, q2, q3, q4, q5, q6, q7, q8, _⟩ := hcs
      have hxm : x ∈ fs := List.mem_of_getElem? hx
      have hnx := hok x hxm
      have hwx := wt_memF hxm
      have hix := ints_memF hxm hin
      have cN := fun (W : World) (hb : Below w.heap.size w W) => hnx W _ (kV.K_below hb hK) (by omega) hix
      have cC := fun (W : World) => rClean_any x.name W (by omega)
      have hsn := hsnoc.out x hx
      generalize clean x.name = nm at cC hsn
      have hSof : ∀ W, Below (w.heap.size + 2) wr W → W.cell? ⟨w.heap.size, 7, none⟩ = some (.slice (some ad) nf d) ∧ W.cell? (ad.add (j * 9)) = some (.string x.name) ∧ W.cell? ⟨(ad.add (j * 9)).block, (ad.add (j * 9)).off + (0 + 1), none⟩ = some (.int .i64 x.value.kind) ∧ W.cell? ⟨(ad.add (j * 9)).block, (ad.add (j * 9)).off + (1 + 1), none⟩ = some (.bool x.value.truth) ∧ W.cell? ⟨(ad.add (j * 9)).block, (ad.add (j * 9)).off + (2 + 1), none⟩ = some (.bool x.value.neg) ∧ W.cell? ⟨(ad.add (j * 9)).block, (ad.add (j * 9)).off + (3 + 1), none⟩ = some (.string x.value.digits) ∧ W.cell? ⟨(ad.add (j * 9)).block, (ad.add (j * 9)).off + (4 + 1), none⟩ = some (.int .i64 x.value.exp) ∧ W.cell? ⟨(ad.add (j * 9)).block, (ad.add (j * 9)).off + (5 + 1), none⟩ = some (.string x.value.text) ∧ W.cell? ⟨(ad.add (j * 9)).block, (ad.add (j * 9)).off + (6 + 1), none⟩ = some (.slice A6 x.value.list.length c6) ∧ W.cell? ⟨(ad.add (j * 9)).block, (ad.add (j * 9)).off + (7 + 1), none⟩ = some (.slice A7 x.value.fields.length c7) := fun W hb => by
        have hbw := hBw.trans (hb.mono (by omega))
        refine ⟨cellAll ((hb.block w.heap.size (by omega)).trans hbf) 7, ?_, ?_, ?_, ?_, ?_, ?_, ?_, ?_, ?_⟩ <;> first | exact pw_cell_below hbw q0 | exact pw_cell_below hbw q1 | exact pw_cell_below hbw q2 | exact pw_cell_below hbw q3 | exact pw_cell_below hbw q4 | exact pw_cell_below hbw q5 | exact pw_cell_below hbw q6 | exact pw_cell_below hbw q7 | exact pw_cell_below hbw q8
      have hS0 := hSof wr (Below.refl _ _)
      have hS1 := hSof wr.drew (Below.refl _ _).drew
      have hbc : Below wr.heap.size wr wr.drew := (Below.refl _ _).drew
      have hws : w.heap.size + 3 ≤ wr.heap.size := by have := hB.size; omega
      have hSa2 := fun o => hSof (wr.alloc o).drew ((((Below.refl wr.heap.size wr).mono (by omega)).alloc (by omega) o).drew)
      have hSa1 := fun o => hSof (wr.drew.alloc o) ((hbc.mono (by omega)).alloc (by show _ ≤ wr.heap.size; omega) o)
      have hj1 : (j : Int) < (nf : Int) := by omega
      have hj0 : (0 : Int) ≤ (j : Int) := by omega
      replace hR := Aside0.mk hR
      replace hx := Aside0.mk hx
      replace hm := Aside0.mk hm
      replace hbx := Aside0.mk hbx
      replace hbf := Aside0.mk hbf
      replace hrise := Aside0.mk hrise
      clear hnx hK hxm q0 q1 q2 q3 q4 q5 q6 q7 q8 hsnoc
      replace hsn := Aside0.mk hsn
      generalize JV.normF (fs.take j) [] = out at *
      go_wp2_with fail
      go_region_held3 (fun W => W.cell? ⟨w.heap.size, 7, none⟩ = some (.slice (some ad) nf d) ∧ W.cell? (ad.add (j * 9)) = some (.string x.name) ∧ W.cell? ⟨(ad.add (j * 9)).block, (ad.add (j * 9)).off + (0 + 1), none⟩ = some (.int .i64 x.value.kind) ∧ W.cell? ⟨(ad.add (j * 9)).block, (ad.add (j * 9)).off + (1 + 1), none⟩ = some (.bool x.value.truth) ∧ W.cell? ⟨(ad.add (j * 9)).block, (ad.add (j * 9)).off + (2 + 1), none⟩ = some (.bool x.value.neg) ∧ W.cell? ⟨(ad.add (j * 9)).block, (ad.add (j * 9)).off + (3 + 1), none⟩ = some (.string x.value.digits) ∧ W.cell? ⟨(ad.add (j * 9)).block, (ad.add (j * 9)).off + (4 + 1), none⟩ = some (.int .i64 x.value.exp) ∧ W.cell? ⟨(ad.add (j * 9)).block, (ad.add (j * 9)).off + (5 + 1), none⟩ = some (.string x.value.text) ∧ W.cell? ⟨(ad.add (j * 9)).block, (ad.add (j * 9)).off + (6 + 1), none⟩ = some (.slice A6 x.value.list.length c6) ∧ W.cell? ⟨(ad.add (j * 9)).block, (ad.add (j * 9)).off + (7 + 1), none⟩ = some (.slice A7 x.value.fields.length c7))
        (first | (with_reducible exact hS0) | (with_reducible exact hS1) | (with_reducible exact hSwC) | (with_reducible exact hSwN) | (with_reducible exact hSa1 _) | (with_reducible exact hSa2 _) | (with_reducible exact hSaC _) | (with_reducible exact hSaN _) | (refine hSof _ ?_; with_reducible exact below_nine hbc8 hbc9 _ _ _ _ _ _ _ _ _) | (refine hSof _ ?_; with_reducible exact below_nine hbc8 hbc8z _ _ _ _ _ _ _ _ _))
        (first
          | (go_at_call 47; refine (cC _).mono ?_; rintro e wC ⟨rfl, hbC⟩; (first | (have hb7 := (hbC.block _ (blk_lt hb7.out)).trans hb7.out; have hc7 := cellAll hb7; have hf7 := frozenAll hb7; replace hb7 := Aside0.mk hb7) | (have hb7 := (hbC.block _ (by simp)).trans (heap_alloc_new _ _); (try rw [show wr.drew.heap.size = wr.heap.size from rfl] at hb7); have hc7 := cellAll hb7; have hf7 := frozenAll hb7; replace hb7 := Aside0.mk hb7) | skip); (try (have hb7l := blk_lt hb7.out)); (try (have hMn := Aside0.mk (a := kV.M wC wr.heap.size _ x.value.norm [.int .i64 x.value.norm.kind, .bool x.value.norm.truth, .bool x.value.norm.neg, .string x.value.norm.digits, .int .i64 x.value.norm.exp, .string x.value.norm.text, .slice Al x.value.norm.list.length cl, .slice Af x.value.norm.fields.length cf]) (by first | exact Kd.M_below hMn.out hbC | exact Kd.M_below (Kd.M_below hMn.out ((Below.refl _ _).alloc (Nat.le_refl _) _)) hbC))); have hbc : Below wr.heap.size wr wC := (by first | exact hbc.trans (hbC.mono hbc.size) | exact (hbc.alloc hbc.size _).trans (hbC.mono (hbc.alloc hbc.size _).size)); have hzwC := hbc.size; have hSwC := hSof wC (hbc.mono (by omega)); have hSaC := fun o => hSof (wC.alloc o) ((hbc.mono (by omega)).alloc (by omega) o))
          | (go_at_call 23; refine (cN _ ?hb).mono ?_; (case hb => (first | exact hBw.trans (hbc.mono (by omega)) | exact hBw.trans ((hbc.alloc hbc.size _).mono (by omega)))); rintro e wN ⟨cs', rfl, hM, hbN⟩; obtain ⟨vl, vf, rfl, hRl, hRf⟩ := kV_openM hM; unfold JV.cells at hM; obtain ⟨Al, cl, rfl⟩ := Kd.R_slice hRl; obtain ⟨Af, cf, rfl⟩ := Kd.R_slice hRf; unfold JV.cells; clear hRl hRf; (first | (have hb7 := (hbN.block _ (blk_lt hb7.out)).trans hb7.out; have hc7 := cellAll hb7; have hf7 := frozenAll hb7; replace hb7 := Aside0.mk hb7) | (have hb7 := (hbN.block _ (by simp)).trans (heap_alloc_new _ _); (try rw [show wr.drew.heap.size = wr.heap.size from rfl] at hb7); have hc7 := cellAll hb7; have hf7 := frozenAll hb7; replace hb7 := Aside0.mk hb7) | skip); have hMn := kV.M_lower (base' := wr.heap.size) (by have := hbc.size; first | omega | (simp; omega)) (kV.M_mono (fun k hk => hk.2) (kV.M_bound hM)); replace hMn := Aside0.mk hMn; have hbc : Below wr.heap.size wr wN := (by first | exact hbc.trans (hbN.mono hbc.size) | exact (hbc.alloc hbc.size _).trans (hbN.mono (hbc.alloc hbc.size _).size)); have hzwN := hbc.size; have hSwN := hSof wN (hbc.mono (by omega)); have hSaN := fun o => hSof (wN.alloc o) ((hbc.mono (by omega)).alloc (by omega) o); have hbc8 : Below (w.heap.size + 2) wr wN := hbc.mono (by omega); have hbc9 : w.heap.size + 2 ≤ wC.heap.size := (by omega); have hbc8z : w.heap.size + 2 ≤ wr.heap.size := (by omega); clear hM))
      all_goals (refine at_world (P := fun F => Below wr.heap.size wr F ∧ kV.M F wr.heap.size (fun _ => True) x.value.norm [.int .i64 x.value.norm.kind, .bool x.value.norm.truth, .bool x.value.norm.neg, .string x.value.norm.digits, .int .i64 x.value.norm.exp, .string x.value.norm.text, .slice Al x.value.norm.list.length cl, .slice Af x.value.norm.fields.length cf]) ?_ (fun hF => ?_))
      · exact ⟨hbc.alloc hzwN _, kV.M_mono (fun _ _ => trivial) (Kd.M_below hMn.out ((Below.refl _ _).alloc (Nat.le_refl _) _))⟩
      · have hbxF := (hF.1.block _ (blk_lt hbx.out)).trans hbx.out
        have hcF := cellAll hbxF
        have hfF := frozenAll hbxF
        have hzF : wr.heap.size ≤ _ := hF.1.size
        have hRF := Kd.R_below hR.out hF.1
        have hMF := kV.M_lower (base' := w.heap.size + 3) hws hF.2
        replace hbxF := Aside0.mk hbxF
        replace hRF := Aside0.mk hRF
        replace hMF := Aside0.mk hMF
        have hF1 := Aside0.mk hF.1
        clear hF
        obtain ⟨m2, hm2⟩ : ∃ m2, (insF out nm x.value.norm).length = m2 := ⟨_, rfl⟩
        replace hm2 := Aside0.mk hm2
        have hmo : out.length ≤ 4294967296 := by rw [hm.out]; exact hol2
        replace hmo := Aside0.mk hmo
        go_wp2_with (go_at_call 49; refine (put01_any (w.heap.size + 3) (.slice VA m vc) out nm x.value.norm (.slice Al x.value.norm.list.length cl) (.slice Af x.value.norm.fields.length cf) _ hRF.out hMF.out hrise.out (Nat.le_trans hws hzF) hmo.out).mono ?_; rintro e wP ⟨v1, rfl, hR1, hbP⟩; obtain ⟨A1, c1, hv1⟩ := Kd.R_slice hR1; rw [hm2.out] at hv1; subst hv1; have hbxP := (hbP.block _ (blk_lt hbxF.out)).trans hbxF.out; have hcP := cellAll hbxP; have hfP := frozenAll hbxP; replace hbxP := Aside0.mk hbxP; replace hR1 := Aside0.mk hR1; replace hbP := Aside0.mk hbP)
        go_roundw
        case rel =>
          refine ⟨j + 1, .slice A1 m2 c1, by go_num, by omega, blk_set hbxP.out 7 _, ?_, set_far ((hB.trans (hF1.out.mono (by omega))).trans (hbP.out.mono (by omega))) (by omega) _⟩
          rw [hsn.out]
          exact Kd.R_mono (Kd.R_far (p := ⟨w.heap.size + 1 + 1, 7, none⟩) (ok := fun k => w.heap.size + 3 ≤ k) (Kd.R_mono (Kd.R_bound hR1.out) (fun k hk => hk.2.1)) (fun k hk => by show k ≠ w.heap.size + 1 + 1; omega) _) (fun _ _ => trivial)
        case measure => first | (simp [intOf]; done) | (simp [intOf]; omega)
      · exact ⟨below_nine hbc hzwC _ _ _ _ _ _ _ _ _, kV.M_mono (fun _ _ => trivial) (Kd.M_step hMn.out (fun k hk _ => nine_far (by have := hk.1; simp at this; omega) _ _ _ _ _ _ _ _ _))⟩
      · have hbxF := (hF.1.block _ (blk_lt hbx.out)).trans hbx.out
        have hcF := cellAll hbxF
        have hfF := frozenAll hbxF
        have hzF : wr.heap.size ≤ _ := hF.1.size
        have hRF := Kd.R_below hR.out hF.1
        have hMF := kV.M_lower (base' := w.heap.size + 3) hws hF.2
        replace hbxF := Aside0.mk hbxF
        replace hRF := Aside0.mk hRF
        replace hMF := Aside0.mk hMF
        have hF1 := Aside0.mk hF.1
        clear hF
        obtain ⟨m2, hm2⟩ : ∃ m2, (insF out nm x.value.norm).length = m2 := ⟨_, rfl⟩
        replace hm2 := Aside0.mk hm2
        have hmo : out.length ≤ 4294967296 := by rw [hm.out]; exact hol2
        replace hmo := Aside0.mk hmo
        go_wp2_with (go_at_call 49; refine (put01_any (w.heap.size + 3) (.slice VA m vc) out nm x.value.norm (.slice Al x.value.norm.list.length cl) (.slice Af x.value.norm.fields.length cf) _ hRF.out hMF.out hrise.out (Nat.le_trans hws hzF) hmo.out).mono ?_; rintro e wP ⟨v1, rfl, hR1, hbP⟩; obtain ⟨A1, c1, hv1⟩ := Kd.R_slice hR1; rw [hm2.out] at hv1; subst hv1; have hbxP := (hbP.block _ (blk_lt hbxF.out)).trans hbxF.out; have hcP := cellAll hbxP; have hfP := frozenAll hbxP; replace hbxP := Aside0.mk hbxP; replace hR1 := Aside0.mk hR1; replace hbP := Aside0.mk hbP)
        go_roundw
        case rel =>
          refine ⟨j + 1, .slice A1 m2 c1, by go_num, by omega, blk_set hbxP.out 7 _, ?_, set_far ((hB.trans (hF1.out.mono (by omega))).trans (hbP.out.mono (by omega))) (by omega) _⟩
          rw [hsn.out]
          exact Kd.R_mono (Kd.R_far (p := ⟨w.heap.size + 1 + 1, 7, none⟩) (ok := fun k => w.heap.size + 3 ≤ k) (Kd.R_mono (Kd.R_bound hR1.out) (fun k hk => hk.2.1)) (fun k hk => by show k ≠ w.heap.size + 1 + 1; omega) _) (fun _ _ => trivial)
        case measure => first | (simp [intOf]; done) | (simp [intOf]; omega)
      · exact ⟨below_nine hbc (Nat.le_refl _) _ _ _ _ _ _ _ _ _, kV.M_mono (fun _ _ => trivial) (Kd.M_step hMn.out (fun k hk _ => nine_far (by have := hk.1; omega) _ _ _ _ _ _ _ _ _))⟩
      · have hbxF := (hF.1.block _ (blk_lt hbx.out)).trans hbx.out
        have hcF := cellAll hbxF
        have hfF := frozenAll hbxF
        have hzF : wr.heap.size ≤ _ := hF.1.size
        have hRF := Kd.R_below hR.out hF.1
        have hMF := kV.M_lower (base' := w.heap.size + 3) hws hF.2
        replace hbxF := Aside0.mk hbxF
        replace hRF := Aside0.mk hRF
        replace hMF := Aside0.mk hMF
        have hF1 := Aside0.mk hF.1
        clear hF
        obtain ⟨m2, hm2⟩ : ∃ m2, (insF out nm x.value.norm).length = m2 := ⟨_, rfl⟩
        replace hm2 := Aside0.mk hm2
        have hmo : out.length ≤ 4294967296 := by rw [hm.out]; exact hol2
        replace hmo := Aside0.mk hmo
        go_wp2_with (go_at_call 49; refine (put01_any (w.heap.size + 3) (.slice VA m vc) out nm x.value.norm (.slice Al x.value.norm.list.length cl) (.slice Af x.value.norm.fields.length cf) _ hRF.out hMF.out hrise.out (Nat.le_trans hws hzF) hmo.out).mono ?_; rintro e wP ⟨v1, rfl, hR1, hbP⟩; obtain ⟨A1, c1, hv1⟩ := Kd.R_slice hR1; rw [hm2.out] at hv1; subst hv1; have hbxP := (hbP.block _ (blk_lt hbxF.out)).trans hbxF.out; have hcP := cellAll hbxP; have hfP := frozenAll hbxP; replace hbxP := Aside0.mk hbxP; replace hR1 := Aside0.mk hR1; replace hbP := Aside0.mk hbP)
        go_roundw
        case rel =>
          refine ⟨j + 1, .slice A1 m2 c1, by go_num, by omega, blk_set hbxP.out 7 _, ?_, set_far ((hB.trans (hF1.out.mono (by omega))).trans (hbP.out.mono (by omega))) (by omega) _⟩
          rw [hsn.out]
          exact Kd.R_mono (Kd.R_far (p := ⟨w.heap.size + 1 + 1, 7, none⟩) (ok := fun k => w.heap.size + 3 ≤ k) (Kd.R_mono (Kd.R_bound hR1.out) (fun k hk => hk.2.1)) (fun k hk => by show k ≠ w.heap.size + 1 + 1; omega) _) (fun _ _ => trivial)
        case measure => first | (simp [intOf]; done) | (simp [intOf]; omega)
    · obtain rfl : j = nf := by omega
      have hb1 := (hB.block (w.heap.size + 1) (by omega)).trans f1.out
      have hc1 := cellAll hb1
      have hf1 := frozenAll hb1
      clear hb1 hbf hsnoc
      replace hR := Aside0.mk hR
      replace hbx := Aside0.mk hbx
      have hno : ¬ (j : Int) < (j : Int) := by omega
      go_wp2_with fail
      refine bodyPost_ret (v := .agg #[.int .i64 5, .bool false, .bool false, .string ⟨#[]⟩, .int .i64 0, .string ⟨#[]⟩, .slice none 0 0, .slice VA m vc]) (by simp [results, Tryz.results23, go_sem, hc1]) rfl ⟨[.int .i64 5, .bool false, .bool false, .string ⟨#[]⟩, .int .i64 0, .string ⟨#[]⟩, .slice none 0 0, .slice VA m vc], rfl, ?_, ?_⟩
      · have hfs : fs.take j = fs := by rw [← hlen.out, List.take_length]
        rw [hfs] at hR hm
        have hRo := hR.out
        rw [← hm] at hRo ⊢
        exact kV_mkM (x := .mk 5 false false ⟨#[]⟩ 0 ⟨#[]⟩ [] (JV.normF fs [])) (R_nilV _ _ _) (R_sets (W := W3) (by rw [hs3]; exact hRo) (by omega) (by omega))
      · iterate 8 refine below_set ?_ (by omega)
        exact hBw
end Go.Proofs.YtmfijfcikecglaaGreatDoor
end
section
set_option linter.unusedVariables false
set_option linter.unusedSimpArgs false
namespace Go.Proofs.YtmfijfcikecglaaGreatDoor
open Go Go.RowKit Go.Proofs.YtmfijfcikecglaaGreatDoorW.PrintWords

set_option maxRecDepth 100000 in
set_option maxHeartbeats 8000000 in
/-- Values whose heads are one. -/
theorem like_go (w : World) (k : Int) (t ng : Bool) (ds tx : ByteArray) (ex : Int) (A B A' B' : Option Addr) (n m c d c' d' : Nat) (l l' : List JV) (f f' : List JF)
    (hcl : n ≤ c) (hcl' : n ≤ c') (hcf : m ≤ d) (hcf' : m ≤ d')
    (hCl : kV.C w A n l) (hCl' : kV.C w A' n l') (hCf : kF.C w B m f) (hCf' : kF.C w B' m f') (hl : ∀ y ∈ l, LikeOK y) (hf : ∀ g ∈ f, LikeOK g.value) :
    Calls Tryz.prog 22 #[.agg #[.int .i64 k, .bool t, .bool ng, .string ds, .int .i64 ex, .string tx, .slice A n c, .slice B m d], .agg #[.int .i64 k, .bool t, .bool ng, .string ds, .int .i64 ex, .string tx, .slice A' n c', .slice B' m d']] w fun e w' => ∃ b : Bool, e = .returned (.bool b) ∧ (b = true ↔ l = l' ∧ f = f') ∧ Below w.heap.size w w' := by
  have hmxl := hCl.2.1
  have hmxf := hCf.2.1
  have hnl := Aside0.mk hCl.1
  have hnl' := Aside0.mk hCl'.1
  have hnf := Aside0.mk hCf.1
  have hnf' := Aside0.mk hCf'.1
  obtain ⟨W0, hW0⟩ : ∃ W0, (w.alloc (.cells #[.int .i64 k, .bool t, .bool ng, .string ds, .int .i64 ex, .string tx, .slice A n c, .slice B m d] 27)).alloc (.cells #[.int .i64 k, .bool t, .bool ng, .string ds, .int .i64 ex, .string tx, .slice A' n c', .slice B' m d'] 27) = W0 := ⟨_, rfl⟩
  have hB0 : Below w.heap.size w W0 := by rw [← hW0]; exact ((Below.refl _ w).alloc (Nat.le_refl _) _).alloc (by simp) _
  have hk : W0.heap[w.heap.size]? = some (.cells #[.int .i64 k, .bool t, .bool ng, .string ds, .int .i64 ex, .string tx, .slice A n c, .slice B m d] 27 (0, 0)) := by
    rw [← hW0]; exact (heap_alloc_old _ _ (by simp)).trans (heap_alloc_new w _)
  have hj : W0.heap[w.heap.size + 1]? = some (.cells #[.int .i64 k, .bool t, .bool ng, .string ds, .int .i64 ex, .string tx, .slice A' n c', .slice B' m d'] 27 (0, 0)) := by
    rw [← hW0]
    have := heap_alloc_new (w.alloc (.cells #[.int .i64 k, .bool t, .bool ng, .string ds, .int .i64 ex, .string tx, .slice A n c, .slice B m d] 27)) (.cells #[.int .i64 k, .bool t, .bool ng, .string ds, .int .i64 ex, .string tx, .slice A' n c', .slice B' m d'] 27)
    simpa using this
  have hc0 := cellAll hk
  have hd0 := cellAll hj
  have hCl0 := Kd.C_below hCl hB0
  have hCl0' := Kd.C_below hCl' hB0
  have hCf0 := Kd.C_below hCf hB0
  have hCf0' := Kd.C_below hCf' hB0
  clear hCl hCl' hCf hCf'
  replace hk := Aside0.mk hk
  replace hj := Aside0.mk hj
  replace hB0 := Aside0.mk hB0
  go_enter Tryz.func22, Tryz.ntmps22
  go_wp2_with fail
  go_loopw [6] (fun i wr => ∃ j : Nat, i = .int .i64 j ∧ j ≤ n ∧ Aside0 (l.take j = l'.take j) ∧ Below W0.heap.size W0 wr) (fun i _ => n - (intOf i).toNat)
  case atStart => exact ⟨0, rfl, Nat.zero_le _, ⟨rfl⟩, Below.refl _ _⟩
  case round =>
    obtain ⟨j, rfl, hjl, hT, hB⟩ := hrel
    have hbr := (hB.block w.heap.size (blk_lt hk.out)).trans hk.out
    have hcr := cellAll hbr
    have hbr2 := (hB.block (w.heap.size + 1) (blk_lt hj.out)).trans hj.out
    have hdr := cellAll hbr2
    replace hbr := Aside0.mk hbr
    replace hbr2 := Aside0.mk hbr2
    clear hc0 hd0
    by_cases hlt : j < n
    · obtain ⟨ad, x, A6, c6, A7, c7, rfl, hx, hcs, l6, g6, l7, g7⟩ := at_V (Kd.C_below hCl0 hB) j hlt
      obtain ⟨ad', x', A6', c6', A7', c7', rfl, hx', hcs', l6', g6', l7', g7'⟩ := at_V (Kd.C_below hCl0' hB) j hlt
      have hK := kV_mkK l6 g6 l7 g7
      have hK' := kV_mkK l6' g6' l7' g7'
      unfold JV.cells at hcs hK hcs' hK'
      obtain ⟨q0, q1, q2, q3, q4, q5, q6, q7, _⟩ := hcs
      obtain ⟨p0, p1, p2, p3, p4, p5, p6, p7, _⟩ := hcs'
      have cL := hl x (List.mem_of_getElem? hx) x' wr.drew _ _ (kV.K_below (Below.refl _ wr).drew hK) (kV.K_below (Below.refl _ wr).drew hK')
      have hsn : Aside0 (x = x' → l.take (j + 1) = l'.take (j + 1)) := ⟨fun e => by rw [List.take_add_one, List.take_add_one, hx, hx', hT.out, e]⟩
      have hsx : Aside0 (l = l' → x = x') := ⟨fun e => by rw [e, hx'] at hx; injection hx with hx; exact hx.symm⟩
      replace hx := Aside0.mk hx
      replace hx' := Aside0.mk hx'
      clear hK hK'
      go_wp2_with fail
      go_still_tail 10, (by kernel_rfl)
      change wpList _ _ _ _ _ wr.drew
      go_wp2_with (go_at_call 22; refine cL.mono ?_; rintro e w1 ⟨b, rfl, hbx, hb4⟩)
      all_goals (have hb5 := (Below.refl wr.heap.size wr).drew.trans hb4)
      all_goals (have hB6 := hB.trans (hb5.mono hB.size))
      all_goals (first
        | (have hbf : b = false := (by have hh : (!b) = true := (by assumption); simpa using hh)
           go_ret
           exact ⟨false, rfl, ⟨fun h => (by cases h), fun h => absurd (hbx.2 (hsx.out h.1)) (by rw [hbf]; simp)⟩, hB0.out.trans (hB6.mono hB0.out.size)⟩)
        | (have hbt : b = true := (by have hh : (!b) = false := (by assumption); simpa using hh)
           refine ⟨⟨j + 1, by go_num, by omega, ⟨hsn.out (hbx.1 hbt)⟩, hB6⟩, ?_⟩
           simp [intOf]; omega))
    · obtain rfl : j = n := by omega
      have hlt2 : decide ((j : Int) < (j : Int)) = false := by simp
      have hTl : Aside0 (l = l') := ⟨by have := hT.out; rw [List.take_of_length_le (by rw [hnl.out]; exact Nat.le_refl _), List.take_of_length_le (by rw [hnl'.out]; exact Nat.le_refl _)] at this; exact this⟩
      go_wp2_with fail
      clear hT
      go_loopw [8] (fun i wr2 => ∃ q : Nat, i = .int .i64 q ∧ q ≤ m ∧ Aside0 (f.take q = f'.take q) ∧ Below W0.heap.size W0 wr2) (fun i _ => m - (intOf i).toNat)
      case atStart => exact ⟨0, rfl, Nat.zero_le _, ⟨rfl⟩, hB⟩
      case round =>
        obtain ⟨q, rfl, hqm, hT, hB2⟩ := hrel
        have hbr3 := (hB2.block w.heap.size (blk_lt hk.out)).trans hk.out
        have hcr3 := cellAll hbr3
        have hbr4 := (hB2.block (w.heap.size + 1) (blk_lt hj.out)).trans hj.out
        have hdr4 := cellAll hbr4
        replace hbr3 := Aside0.mk hbr3
        replace hbr4 := Aside0.mk hbr4
        clear hcr hdr
        by_cases hlt3 : q < m
        · obtain ⟨ad, x, A6, c6, A7, c7, rfl, hx, hcs, l6, g6, l7, g7⟩ := at_F (Kd.C_below hCf0 hB2) q hlt3
          obtain ⟨ad', x', A6', c6', A7', c7', rfl, hx', hcs', l6', g6', l7', g7'⟩ := at_F (Kd.C_below hCf0' hB2) q hlt3
          have hK := kV_mkK l6 g6 l7 g7
          have hK' := kV_mkK l6' g6' l7' g7'
          unfold JV.cells at hcs hK hcs' hK'
          have cL := hf x (List.mem_of_getElem? hx) x'.value wr.drew _ _ (kV.K_below (Below.refl _ wr).drew hK) (kV.K_below (Below.refl _ wr).drew hK')
          have hfe : Aside0 (x.name = x'.name → x.value = x'.value → x = x') := ⟨fun e1 e2 => by
            obtain ⟨xn, xv⟩ := x
            obtain ⟨xn', xv'⟩ := x'
            simp only [JF.name, JF.value] at e1 e2
            rw [e1, e2]⟩
          have hsn : Aside0 (x = x' → f.take (q + 1) = f'.take (q + 1)) := ⟨fun e => by rw [List.take_add_one, List.take_add_one, hx, hx', hT.out, e]⟩
          have hsx : Aside0 (f = f' → x = x') := ⟨fun e => by rw [e, hx'] at hx; injection hx with hx; exact hx.symm⟩
          have hel := Aside0.mk hcs
          have hel' := Aside0.mk hcs'
          obtain ⟨q0, q1, q2, q3, q4, q5, q6, q7, q8, _⟩ := hcs
          obtain ⟨p0, p1, p2, p3, p4, p5, p6, p7, p8, _⟩ := hcs'
          replace hx := Aside0.mk hx
          replace hx' := Aside0.mk hx'
          clear hK hK'
          go_wp2_with fail
          go_still_tail 12, (by kernel_rfl)
          change wpList _ _ _ _ _ wr.drew
          go_wp2_with (go_at_call 22; refine cL.mono ?_; rintro e w1 ⟨b, rfl, hbx, hb4⟩; have hb5 := (Below.refl wr.heap.size wr).drew.trans hb4; have hB6 := hB2.trans (hb5.mono hB2.size); have hcr5 := cellAll ((hB6.block w.heap.size (blk_lt hk.out)).trans hk.out); have hdr5 := cellAll ((hB6.block (w.heap.size + 1) (blk_lt hj.out)).trans hj.out); have hn5 := pw_cell_below hb5 q0; have hn5' := pw_cell_below hb5 p0; clear hcr3 hdr4 q0 p0)
          cases b with
          | false =>
            go_quiet (fail)
            go_wp2_with fail
            go_ret
            exact ⟨false, rfl, ⟨fun h => (by cases h), fun h => absurd (hbx.2 (by rw [hsx.out h.2])) (by simp)⟩, pw_below_drewN (hB0.out.trans (hB6.mono hB0.out.size)) _⟩
          | true =>
            by_cases hnm : x.name = x'.name
            · rw [hnm] at hn5
              go_quiet (fail)
              go_wp2_with fail
              refine ⟨⟨q + 1, by go_num, by omega, ⟨hsn.out (hfe.out hnm (hbx.1 rfl))⟩, pw_below_drewN hB6 _⟩, ?_⟩
              simp [intOf]; omega
            · have b1 := bytes_bne hnm
              have b2 := bytes_tne hnm
              have b3 := bytes_beq_no hnm
              go_quiet (fail)
              go_wp2_with fail
              go_ret
              have hno : ¬ (f = f') := fun h => hnm (by rw [hsx.out h])
              exact .inl ⟨rfl, fun _ => hno, pw_below_drewN (hB0.out.trans (hB6.mono hB0.out.size)) _⟩
        · obtain rfl : q = m := by omega
          have hlt5 : decide ((q : Int) < (q : Int)) = false := by simp
          have hTf : Aside0 (f = f') := ⟨by have := hT.out; rw [List.take_of_length_le (by rw [hnf.out]; exact Nat.le_refl _), List.take_of_length_le (by rw [hnf'.out]; exact Nat.le_refl _)] at this; exact this⟩
          go_wp2_with fail
          go_ret
          exact ⟨true, rfl, ⟨fun _ => ⟨hTl.out, hTf.out⟩, fun _ => rfl⟩, hB0.out.trans (hB2.mono hB0.out.size)⟩

theorem like_step (x : JV) (hl : ∀ y ∈ x.list, LikeOK y) (hf : ∀ g ∈ x.fields, LikeOK g.value) : LikeOK x := by
  intro y w cs cs' hK hK'
  obtain ⟨A, c, B, d, rfl, hV⟩ := VC.of hK
  obtain ⟨A', c', B', d', rfl, hV'⟩ := VC.of hK'
  obtain ⟨k, t, ng, ds, ex, tx, l, f⟩ := x
  obtain ⟨k', t', ng', ds', ex', tx', l', f'⟩ := y
  obtain ⟨_, hlc, hCl, hfc, hCf⟩ := hV
  obtain ⟨_, hlc', hCl', hfc', hCf'⟩ := hV'
  unfold JV.cells
  simp only [JV.kind, JV.truth, JV.neg, JV.digits, JV.exp, JV.text, JV.list, JV.fields] at *
  by_cases h : k = k' ∧ t = t' ∧ ng = ng' ∧ ds = ds' ∧ ex = ex' ∧ tx = tx' ∧ l.length = l'.length ∧ f.length = f'.length
  · obtain ⟨rfl, rfl, rfl, rfl, rfl, rfl, h1, h2⟩ := h
    rw [← h1] at hlc' hCl' ⊢
    rw [← h2] at hfc' hCf' ⊢
    refine (like_go w k t ng ds tx ex A B A' B' l.length f.length c d c' d' l l' f f' hlc hlc' hfc hfc' hCl hCl' hCf hCf' hl hf).mono ?_
    rintro e w' ⟨b, rfl, hb, hB⟩
    refine ⟨b, rfl, hb.trans ⟨fun h => by rw [h.1, h.2], fun h => ?_⟩, hB⟩
    injection h with _ _ _ _ _ _ h3 h4
    exact ⟨h3, h4⟩
  · refine (like_no w k k' t ng t' ng' ds tx ds' tx' ex ex' A B A' B' l.length c f.length d l'.length c' f'.length d' h).mono ?_
    rintro e w' ⟨rfl, hB⟩
    refine ⟨false, rfl, ⟨fun h => (by cases h), fun e => absurd ?_ h⟩, hB⟩
    injection e with e1 e2 e3 e4 e5 e6 e7 e8
    exact ⟨e1, e2, e3, e4, e5, e6, by rw [e7], by rw [e8]⟩
theorem like_all : ∀ (n : Nat) (x : JV), x.wt ≤ n → LikeOK x
  | 0, .mk k t ng ds ex tx l f, h => by rw [JV.wt] at h; omega
  | n + 1, .mk k t ng ds ex tx l f, h => by
    rw [JV.wt] at h
    exact like_step _ (fun y hy => like_all n y (by have := wt_memL hy; simp only [JV.list] at this; omega)) (fun g hg => like_all n _ (by have := wt_memF hg; simp only [JV.fields] at this; omega))
/-- **voyageref02.Like**: are they one? -/
theorem like_any (x : JV) : LikeOK x := like_all _ x (Nat.le_refl _)
end Go.Proofs.YtmfijfcikecglaaGreatDoor
end
section
set_option linter.unusedVariables false
set_option linter.unusedSimpArgs false
namespace Go.Proofs.YtmfijfcikecglaaGreatDoor
open Go Go.RowKit Go.Proofs.YtmfijfcikecglaaGreatDoorW.PrintWords

theorem rnorm_step (x : JV) (hl : ∀ y ∈ x.list, RNormOK y) (hf : ∀ f ∈ x.fields, RNormOK f.value) : RNormOK x := by
  intro w cs hK hwt hin
  obtain ⟨A, c, B, d, rfl, hlc, hCl, hfc, hCf⟩ := kV_open hK
  clear hK
  obtain ⟨k, t, ng, ds, ex, tx, l, f⟩ := x
  simp only [JV.list, JV.fields] at *
  rw [JV.wt] at hwt
  rw [JV.ints] at hin
  obtain ⟨hik, hie, hil, hif⟩ := hin
  unfold JV.cells
  simp only [JV.kind, JV.truth, JV.neg, JV.digits, JV.exp, JV.text]
  rw [JV.norm]
  by_cases h1 : k = 1
  · rw [if_pos h1]; subst h1
    exact rnorm_one w t ng ds tx ex A B _ c _ d
  rw [if_neg h1]
  by_cases h2 : k = 2
  · rw [if_pos h2]; subst h2
    exact rnorm_num w t ng ds tx ex A B _ c _ d (by omega) hie.1 hie.2
  rw [if_neg h2]
  by_cases h3 : k = 3
  · rw [if_pos h3]; subst h3
    exact rnorm_text w t ng ds tx ex A B _ c _ d (by omega)
  rw [if_neg h3]
  by_cases h4 : k = 4
  · rw [if_pos h4]; subst h4
    exact rnorm_list w t ng ds tx ex A B _ c _ d l hCl hlc hl (by omega) hil
  rw [if_neg h4]
  by_cases h5 : k = 5
  · rw [if_pos h5]; subst h5
    exact rnorm_fields w t ng ds tx ex A B _ c _ d f hCf hfc hf (by omega) hif
  rw [if_neg h5]
  exact rnorm_rest w k t ng ds tx ex A B _ c _ d h1 h2 h3 h4 h5
theorem rnorm_all : ∀ (n : Nat) (x : JV), x.wt ≤ n → RNormOK x
  | 0, .mk k t ng ds ex tx l f, h => by rw [JV.wt] at h; omega
  | n + 1, .mk k t ng ds ex tx l f, h => by
    rw [JV.wt] at h
    exact rnorm_step _ (fun y hy => rnorm_all n y (by have := wt_memL hy; simp only [JV.list] at this; omega)) (fun g hg => rnorm_all n _ (by have := wt_memF hg; simp only [JV.fields] at this; omega))
/-- **voyageref02.Norm.** -/
theorem rnorm_any (x : JV) : RNormOK x := rnorm_all _ x (Nat.le_refl _)
end Go.Proofs.YtmfijfcikecglaaGreatDoor
end
section
set_option linter.unusedVariables false
set_option linter.unusedSimpArgs false
namespace Go.Proofs.YtmfijfcikecglaaGreatDoor
open Go Go.RowKit

mutual
/-- A value in its one form. -/
def JV.isN : JV → Prop
  | .mk k t n d e s l f =>
    (k = 0 ∧ t = false ∧ n = false ∧ d = ⟨#[]⟩ ∧ e = 0 ∧ s = ⟨#[]⟩ ∧ l = [] ∧ f = []) ∨
    (k = 1 ∧ n = false ∧ d = ⟨#[]⟩ ∧ e = 0 ∧ s = ⟨#[]⟩ ∧ l = [] ∧ f = []) ∨
    (k = 2 ∧ t = false ∧ NumN n d e ∧ s = ⟨#[]⟩ ∧ l = [] ∧ f = []) ∨
    (k = 3 ∧ t = false ∧ n = false ∧ d = ⟨#[]⟩ ∧ e = 0 ∧ Lib.validD s.data.toList = true ∧ l = [] ∧ f = []) ∨
    (k = 4 ∧ t = false ∧ n = false ∧ d = ⟨#[]⟩ ∧ e = 0 ∧ s = ⟨#[]⟩ ∧ JV.isNL l ∧ f = []) ∨
    (k = 5 ∧ t = false ∧ n = false ∧ d = ⟨#[]⟩ ∧ e = 0 ∧ s = ⟨#[]⟩ ∧ l = [] ∧ JV.isNF f ∧ Rising f)
def JV.isNL : List JV → Prop
  | [] => True
  | x :: xs => x.isN ∧ JV.isNL xs
def JV.isNF : List JF → Prop
  | [] => True
  | .mk nm v :: xs => (Lib.validD nm.data.toList = true ∧ v.isN) ∧ JV.isNF xs
end
theorem isNL_iff : ∀ {l : List JV}, JV.isNL l ↔ ∀ x ∈ l, x.isN
  | [] => by rw [JV.isNL]; simp
  | x :: l => by rw [JV.isNL, isNL_iff (l := l)]; simp
theorem isNF_iff : ∀ {l : List JF}, JV.isNF l ↔ ∀ f ∈ l, Lib.validD f.name.data.toList = true ∧ f.value.isN
  | [] => by rw [JV.isNF]; simp
  | .mk nm v :: l => by rw [JV.isNF, isNF_iff (l := l)]; simp [JF.name, JF.value]
theorem mem_insF {out : List JF} {nm : ByteArray} {v : JV} {f : JF} (h : f ∈ insF out nm v) : f ∈ out ∨ f = .mk nm v := by
  unfold insF at h
  split at h
  · exact .inl h
  · rcases List.mem_append.1 h with h | h
    · exact .inl ((List.takeWhile_sublist _).subset h)
    · rcases List.mem_cons.1 h with h | h
      · exact .inr h
      · exact .inl ((List.dropWhile_sublist _).subset h)
mutual
theorem norm_isN : ∀ (x : JV), x.norm.isN
  | .mk k t n d e s l f => by
    rw [JV.norm]
    split
    · rw [JV.isN]; exact .inr (.inl ⟨rfl, rfl, rfl, rfl, rfl, rfl, rfl⟩)
    · split
      · rw [JV.isN]; exact .inr (.inr (.inl ⟨rfl, rfl, numN_form n d e, rfl, rfl, rfl⟩))
      · split
        · rw [JV.isN]; exact .inr (.inr (.inr (.inl ⟨rfl, rfl, rfl, rfl, rfl, clean_valid s, rfl, rfl⟩)))
        · split
          · rw [JV.isN]; exact .inr (.inr (.inr (.inr (.inl ⟨rfl, rfl, rfl, rfl, rfl, rfl, normL_isN l, rfl⟩))))
          · split
            · rw [JV.isN]; exact .inr (.inr (.inr (.inr (.inr ⟨rfl, rfl, rfl, rfl, rfl, rfl, rfl, normF_isN f [] (by rw [JV.isNF]; trivial), rising_normF f [] rising_nil⟩))))
            · unfold JV.nul; rw [JV.isN]; exact .inl ⟨rfl, rfl, rfl, rfl, rfl, rfl, rfl, rfl⟩
theorem normL_isN : ∀ (l : List JV), JV.isNL (JV.normL l)
  | [] => by rw [JV.normL, JV.isNL]; trivial
  | x :: l => by rw [JV.normL, JV.isNL]; exact ⟨norm_isN x, normL_isN l⟩
theorem normF_isN : ∀ (l : List JF) (out : List JF), JV.isNF out → JV.isNF (JV.normF l out)
  | [], out, h => by rw [JV.normF]; exact h
  | .mk nm v :: l, out, h => by
    rw [JV.normF]
    refine normF_isN l _ (isNF_iff.2 fun f hf => ?_)
    rcases mem_insF hf with hf | rfl
    · exact isNF_iff.1 h f hf
    · exact ⟨clean_valid nm, norm_isN v⟩
end
theorem while_all {α : Type} (p : α → Bool) : ∀ (l : List α), (∀ x ∈ l, p x = true) → l.takeWhile p = l ∧ l.dropWhile p = []
  | [], _ => ⟨rfl, rfl⟩
  | a :: l, h => by
    obtain ⟨h1, h2⟩ := while_all p l (fun x hx => h x (.tail _ hx))
    have ha := h a (.head _)
    rw [List.takeWhile_cons, List.dropWhile_cons, ha, h2]
    simp [h1]
/-- A name greater than all goes to the end. -/
theorem insF_end {out : List JF} {nm : ByteArray} {v : JV} (h : ∀ f ∈ out, lessB f.name nm = true) : insF out nm v = out ++ [.mk nm v] := by
  unfold insF
  have h1 : out.any (fun f => sameB f.name nm) = false := by
    rw [List.any_eq_false]
    intro f hf hs
    have e := sameB_iff.1 hs
    have := h f hf
    rw [e, lessB_irrefl] at this
    cases this
  obtain ⟨h2, h3⟩ := while_all (fun f : JF => lessB f.name nm) out h
  rw [h1, h2, h3]
  rfl
mutual
/-- The one form's one form is itself. -/
theorem norm_of_isN : ∀ (x : JV), x.isN → x.norm = x
  | .mk k t n d e s l f, h => by
    rw [JV.isN] at h
    rcases h with ⟨rfl, rfl, rfl, rfl, rfl, rfl, rfl, rfl⟩ | ⟨rfl, rfl, rfl, rfl, rfl, rfl, rfl⟩ | ⟨rfl, rfl, hN, rfl, rfl, rfl⟩ | ⟨rfl, rfl, rfl, rfl, rfl, hv, rfl, rfl⟩ | ⟨rfl, rfl, rfl, rfl, rfl, rfl, hl, rfl⟩ | ⟨rfl, rfl, rfl, rfl, rfl, rfl, rfl, hf, hr⟩
    · rw [JV.norm]; rfl
    · rw [JV.norm]; rfl
    · rw [JV.norm]; unfold decNorm; rw [form_numN hN]; rfl
    · rw [JV.norm, clean_of_valid hv]; rfl
    · rw [JV.norm, normL_of_isN l hl]; rfl
    · rw [JV.norm, normF_of_isN f [] hf (by simpa using hr)]; rfl
theorem normL_of_isN : ∀ (l : List JV), JV.isNL l → JV.normL l = l
  | [], _ => by rw [JV.normL]
  | x :: l, h => by
    rw [JV.isNL] at h
    rw [JV.normL, norm_of_isN x h.1, normL_of_isN l h.2]
theorem normF_of_isN : ∀ (l : List JF) (out : List JF), JV.isNF l → Rising (out ++ l) → JV.normF l out = out ++ l
  | [], out, _, _ => by rw [JV.normF, List.append_nil]
  | .mk nm v :: l, out, h, hr => by
    rw [JV.isNF] at h
    rw [JV.normF, clean_of_valid h.1.1, norm_of_isN v h.1.2, insF_end (fun f hf => ?_), normF_of_isN l _ h.2 (by rw [List.append_assoc]; exact hr), List.append_assoc]
    · rfl
    · exact (List.pairwise_append.1 hr).2.2 f hf (.mk nm v) (.head _)
end
/-! ### words and gaps -/
theorem Has.take {s : ByteArray} {j : Nat} {q : List UInt8} (h : Has s j q) : (s.data.toList.drop j).take q.length = q := by
  have h2 := Has.part s j q.length h.1
  apply List.ext_getElem?
  intro k
  by_cases hk : k < q.length
  · have hl : k < ((s.data.toList.drop j).take q.length).length := by have h3 := h.1; have h5 : s.data.toList.length = s.size := Array.length_toList; rw [List.length_take, List.length_drop, h5]; omega
    have a := h2.2 k _ (List.getElem?_eq_getElem hl)
    have b := h.2 k _ (List.getElem?_eq_getElem hk)
    rw [List.getElem?_eq_getElem hl, List.getElem?_eq_getElem hk]
    congr 1
    exact UInt8.toNat_inj.1 (a.symm.trans b)
  · rw [List.getElem?_eq_none (by rw [List.length_take]; omega), List.getElem?_eq_none (by omega)]
theorem extract_drop (s : ByteArray) (i : Nat) : (s.extract i s.size).data.toList = s.data.toList.drop i := by
  have h5 : s.data.toList.length = s.size := Array.length_toList
  rw [ByteArray.data_extract, Array.toList_extract, List.extract_eq_take_drop, List.take_of_length_le (by rw [List.length_drop, h5]; omega)]
theorem pre_yes {s : ByteArray} {i : Nat} {p : List UInt8} (h : Has s i p) : preAt s i p = true := by
  unfold preAt Lib.hasPrefix
  rw [extract_drop, List.isPrefixOf_iff_prefix]
  refine ⟨(s.data.toList.drop i).drop p.length, ?_⟩
  have := List.take_append_drop p.length (s.data.toList.drop i)
  rw [h.take] at this
  exact this
theorem pre_no {s : ByteArray} {i : Nat} {c : UInt8} {p : List UInt8} (h : byteAt s i ≠ c.toNat) : preAt s i (c :: p) = false := by
  cases hp : preAt s i (c :: p) with
  | false => rfl
  | true =>
    exfalso
    unfold preAt Lib.hasPrefix at hp
    rw [extract_drop, List.isPrefixOf_iff_prefix] at hp
    obtain ⟨r, hr⟩ := hp
    have hl : i < s.size := by
      have h5 : s.data.toList.length = s.size := Array.length_toList
      have := congrArg List.length hr
      simp only [List.length_append, List.length_cons, List.length_drop, h5] at this
      omega
    have h2 := Has.part s i 1 (by omega)
    rw [← hr] at h2
    exact h h2.head.1
theorem gap_stay {s : ByteArray} {i : Nat} (h : isGap (byteAt s i) = false) : gapTo s i = i := by
  rw [gapTo, if_neg (fun hx => by rw [h] at hx; exact absurd hx.2 (by simp))]
/-- A byte with which a value may begin. -/
def opens (n : Nat) : Prop := n = 110 ∨ n = 116 ∨ n = 102 ∨ n = 45 ∨ (48 ≤ n ∧ n ≤ 57) ∨ n = 34 ∨ n = 91 ∨ n = 123
theorem opens_gap {n : Nat} (h : opens n) : isGap n = false := by
  unfold opens at h
  unfold isGap
  simp only [Bool.or_eq_false_iff, beq_eq_false_iff_ne]
  omega
theorem put_first : ∀ (x : JV), x.isN → ∃ c q, x.put = c :: q ∧ opens c.toNat
  | .mk k t n d e s l f, h => by
    rw [JV.isN] at h
    unfold opens
    rcases h with ⟨rfl, rfl, rfl, rfl, rfl, rfl, rfl, rfl⟩ | ⟨rfl, rfl, rfl, rfl, rfl, rfl, rfl⟩ | ⟨rfl, rfl, hN, rfl, rfl, rfl⟩ | ⟨rfl, rfl, rfl, rfl, rfl, hv, rfl, rfl⟩ | ⟨rfl, rfl, rfl, rfl, rfl, rfl, hl, rfl⟩ | ⟨rfl, rfl, rfl, rfl, rfl, rfl, rfl, hf, hr⟩
    · rw [JV.put]; exact ⟨110, _, rfl, by decide⟩
    · rw [JV.put]
      cases t with
      | true => exact ⟨116, _, rfl, by decide⟩
      | false => exact ⟨102, _, rfl, by decide⟩
    · rw [JV.put]
      obtain ⟨c, q, e, hc⟩ := text_first hN
      exact ⟨c, q, e, by omega⟩
    · rw [JV.put]; exact ⟨34, _, rfl, by decide⟩
    · rw [JV.put]
      cases l with
      | nil => exact ⟨91, [93], rfl, by decide⟩
      | cons x l => exact ⟨91, _, rfl, by decide⟩
    · rw [JV.put]
      cases f with
      | nil => exact ⟨123, [125], rfl, by decide⟩
      | cons x l =>
        obtain ⟨nm, v⟩ := x
        exact ⟨123, _, rfl, by decide⟩
end Go.Proofs.YtmfijfcikecglaaGreatDoor
end
