/- voyageref02.Copied: a value again, in memory of its own . -/
import Derived.Test.YtmfijfcikecglaaGreatDoorS28
section
set_option linter.unusedVariables false
set_option linter.unusedSimpArgs false
namespace Go.Proofs.YtmfijfcikecglaaGreatDoor
open Go Go.RowKit Go.Proofs.YtmfijfcikecglaaGreatDoorW.PrintWords

def CopyOK (x : JV) : Prop := ∀ (w : World) (cs : List Value), kV.K w x cs → x.wt ≤ 4294967296 →
  Calls Tryz.prog 34 #[.agg cs.toArray] w fun e w' => ∃ cs', e = .returned (.agg cs'.toArray) ∧ kV.M w' w.heap.size (fun _ => True) x cs' ∧ Below w.heap.size w w'

theorem R_setsF {W W1 : World} {g base : Nat} {v : Value} {out : List JF} {u0 u1 u2 u3 u4 u5 u6 u7 : Value} (h : kF.R 68 W1 W.heap.size (fun _ => True) v out) (hg : g < W.heap.size) (hb : base ≤ W.heap.size) :
    kF.R 68 ((((((((W1.setCell ⟨g, 0, none⟩ u0).setCell ⟨g, 1, none⟩ u1).setCell ⟨g, 2, none⟩ u2).setCell ⟨g, 3, none⟩ u3).setCell ⟨g, 4, none⟩ u4).setCell ⟨g, 5, none⟩ u5).setCell ⟨g, 6, none⟩ u6).setCell ⟨g, 7, none⟩ u7) base (fun _ => True) v out := by
  refine Kd.R_lower (Kd.R_mono (Kd.R_keep (ok := fun k => W.heap.size ≤ k) (g := g) (Kd.R_mono (Kd.R_bound h) (fun k hk => hk.2.1)) ?_ (fun k hk => by omega)) (fun _ _ => trivial)) hb
  exact ((((((((KeepBut.refl _ _ _).set_ _ _).set_ _ _).set_ _ _).set_ _ _).set_ _ _).set_ _ _).set_ _ _).set_ _ _

set_option maxRecDepth 100000 in
set_option maxHeartbeats 8000000 in
theorem copied_step (w : World) (k : Int) (t ng : Bool) (ds tx : ByteArray) (ex : Int) (A B : Option Addr) (nl c nf d : Nat) (xs : List JV) (fs : List JF) (hC : kV.C w A nl xs) (hCf : kF.C w B nf fs) (hnc : nl ≤ c) (hnd : nf ≤ d) (hok : ∀ y ∈ xs, CopyOK y) (hokf : ∀ f ∈ fs, CopyOK f.value) (hwt : JV.wtL xs ≤ 4294967296) (hwf : JV.wtF fs ≤ 4294967296) :
    Calls Tryz.prog 34 #[.agg #[.int .i64 k, .bool t, .bool ng, .string ds, .int .i64 ex, .string tx, .slice A nl c, .slice B nf d]] w fun e w' => ∃ cs', e = .returned (.agg cs'.toArray) ∧ kV.M w' w.heap.size (fun _ => True) (.mk k t ng ds ex tx xs fs) cs' ∧ Below w.heap.size w w' := by
  have hB0 := ((Below.refl _ w).alloc (Nat.le_refl _) (.cells #[.int .i64 k, .bool t, .bool ng, .string ds, .int .i64 ex, .string tx, .slice A nl c, .slice B nf d] 27)).alloc (by simp) (.cells #[.int .i64 0, .bool false, .bool false, .string ⟨#[]⟩, .int .i64 0, .string ⟨#[]⟩, .slice none 0 0, .slice none 0 0] 27)
  have hlen := hC.1
  have hll := wtL_len xs
  have hnl : nl ≤ 4294967296 := by omega
  obtain ⟨e0, e1⟩ := boxes' w (.cells #[.int .i64 k, .bool t, .bool ng, .string ds, .int .i64 ex, .string tx, .slice A nl c, .slice B nf d] 27) (.cells #[.int .i64 0, .bool false, .bool false, .string ⟨#[]⟩, .int .i64 0, .string ⟨#[]⟩, .slice none 0 0, .slice none 0 0] 27)
  go_enter Tryz.func34, Tryz.ntmps34
  go_wp2_with fail
  obtain ⟨W3, hW3⟩ : ∃ W3, (((w.alloc (.cells #[.int .i64 k, .bool t, .bool ng, .string ds, .int .i64 ex, .string tx, .slice A nl c, .slice B nf d] 27)).alloc (.cells #[.int .i64 0, .bool false, .bool false, .string ⟨#[]⟩, .int .i64 0, .string ⟨#[]⟩, .slice none 0 0, .slice none 0 0] 27)).alloc (.cells #[.int .i64 k, .bool t, .bool ng, .string ds, .int .i64 ex, .string tx, .slice none 0 0, .slice none 0 0] 27)) = W3 := ⟨_, rfl⟩
  have f2 := heap_alloc_new ((w.alloc (.cells #[.int .i64 k, .bool t, .bool ng, .string ds, .int .i64 ex, .string tx, .slice A nl c, .slice B nf d] 27)).alloc (.cells #[.int .i64 0, .bool false, .bool false, .string ⟨#[]⟩, .int .i64 0, .string ⟨#[]⟩, .slice none 0 0, .slice none 0 0] 27)) (.cells #[.int .i64 k, .bool t, .bool ng, .string ds, .int .i64 ex, .string tx, .slice none 0 0, .slice none 0 0] 27)
  have f0 := (heap_alloc_old _ (.cells #[.int .i64 k, .bool t, .bool ng, .string ds, .int .i64 ex, .string tx, .slice none 0 0, .slice none 0 0] 27) (blk_lt e0)).trans e0
  have f1 := (heap_alloc_old _ (.cells #[.int .i64 k, .bool t, .bool ng, .string ds, .int .i64 ex, .string tx, .slice none 0 0, .slice none 0 0] 27) (blk_lt e1)).trans e1
  have hB3 := hB0.alloc (by simp; omega) (.cells #[.int .i64 k, .bool t, .bool ng, .string ds, .int .i64 ex, .string tx, .slice none 0 0, .slice none 0 0] 27)
  have hs2 : ((w.alloc (.cells #[.int .i64 k, .bool t, .bool ng, .string ds, .int .i64 ex, .string tx, .slice A nl c, .slice B nf d] 27)).alloc (.cells #[.int .i64 0, .bool false, .bool false, .string ⟨#[]⟩, .int .i64 0, .string ⟨#[]⟩, .slice none 0 0, .slice none 0 0] 27)).heap.size = w.heap.size + 1 + 1 := by simp
  have hs3 : W3.heap.size = w.heap.size + 3 := by rw [← hW3]; simp
  rw [hs2] at f2
  rw [hW3] at f0 f1 f2 hB3 ⊢
  clear hW3 hs2 e0 e1 hB0
  replace hlen := Aside0.mk hlen
  replace f0 := Aside0.mk f0
  replace f1 := Aside0.mk f1
  replace f2 := Aside0.mk f2
  replace hB3 := Aside0.mk hB3
  go_loopw [4] (fun i wr => ∃ (j : Nat) (v : Value), i = .int .i64 j ∧ j ≤ nl ∧ wr.heap[w.heap.size + 1 + 1]? = some (.cells #[.int .i64 k, .bool t, .bool ng, .string ds, .int .i64 ex, .string tx, v, .slice none 0 0] 27 (0, 0)) ∧ kV.R 27 wr (w.heap.size + 3) (fun _ => True) v (xs.take j) ∧ Below (w.heap.size + 2) W3 wr) (fun i _ => nl - (intOf i).toNat)
  case atStart => exact ⟨0, _, rfl, Nat.zero_le _, f2.out, R_nilV _ _ _, Below.refl _ _⟩
  case round =>
    obtain ⟨j, v, rfl, hj, hbx, hR, hB⟩ := hrel
    obtain ⟨VA, vc, hv⟩ := Kd.R_slice hR
    rw [show (xs.take j).length = j by rw [List.length_take, hlen.out]; omega] at hv
    subst hv
    have hbf := (hB.block w.heap.size (by omega)).trans f0.out
    have hcf := cellAll hbf
    have hcx := cellAll hbx
    have hfx := frozenAll hbx
    have hBw : Below w.heap.size w wr := hB3.out.trans (hB.mono (by omega))
    by_cases hlt : j < nl
    · obtain ⟨ad, x, A6, c6, A7, c7, rfl, hx, hcs, l6, g6, l7, g7⟩ := at_V hC j hlt
      have hK := kV_mkK l6 g6 l7 g7
      unfold JV.cells at hcs hK
      obtain ⟨q0, q1, q2, q3, q4, q5, q6, q7, _⟩ := hcs
      have hxm : x ∈ xs := List.mem_of_getElem? hx
      have hnx := hok x hxm
      have hwx := wt_memL hxm
      have cN := fun (W : World) (hb : Below w.heap.size w W) => hnx W _ (kV.K_below hb hK) (by omega)
      have hSof : ∀ W, Below (w.heap.size + 2) wr W → W.cell? ⟨w.heap.size, 6, none⟩ = some (.slice (some ad) nl c) ∧ W.cell? (ad.add (j * 8)) = some (.int .i64 x.kind) ∧ W.cell? ⟨(ad.add (j * 8)).block, (ad.add (j * 8)).off + (0 + 1), none⟩ = some (.bool x.truth) ∧ W.cell? ⟨(ad.add (j * 8)).block, (ad.add (j * 8)).off + (1 + 1), none⟩ = some (.bool x.neg) ∧ W.cell? ⟨(ad.add (j * 8)).block, (ad.add (j * 8)).off + (2 + 1), none⟩ = some (.string x.digits) ∧ W.cell? ⟨(ad.add (j * 8)).block, (ad.add (j * 8)).off + (3 + 1), none⟩ = some (.int .i64 x.exp) ∧ W.cell? ⟨(ad.add (j * 8)).block, (ad.add (j * 8)).off + (4 + 1), none⟩ = some (.string x.text) ∧ W.cell? ⟨(ad.add (j * 8)).block, (ad.add (j * 8)).off + (5 + 1), none⟩ = some (.slice A6 x.list.length c6) ∧ W.cell? ⟨(ad.add (j * 8)).block, (ad.add (j * 8)).off + (6 + 1), none⟩ = some (.slice A7 x.fields.length c7) := fun W hb => by
        have hbw := hBw.trans (hb.mono (by omega))
        refine ⟨cellAll ((hb.block w.heap.size (by omega)).trans hbf) 6, ?_, ?_, ?_, ?_, ?_, ?_, ?_, ?_⟩ <;> first | exact pw_cell_below hbw q0 | exact pw_cell_below hbw q1 | exact pw_cell_below hbw q2 | exact pw_cell_below hbw q3 | exact pw_cell_below hbw q4 | exact pw_cell_below hbw q5 | exact pw_cell_below hbw q6 | exact pw_cell_below hbw q7
      have hS0 := hSof wr (Below.refl _ _)
      have hS1 := hSof wr.drew (Below.refl _ _).drew
      have hbd : Below wr.heap.size wr wr.drew := (Below.refl _ _).drew
      have hRd := Kd.R_below hR hbd
      obtain ⟨inner, hown⟩ := Kd.R_own hRd
      have hws : w.heap.size + 3 ≤ wr.heap.size := by have := hB.size; omega
      have hj1 : (j : Int) < (nl : Int) := by omega
      have hj0 : (0 : Int) ≤ (j : Int) := by omega
      replace hR := Aside0.mk hR
      replace hRd := Aside0.mk hRd
      replace hown := Aside0.mk hown
      replace hx := Aside0.mk hx
      replace hbx := Aside0.mk hbx
      replace hbf := Aside0.mk hbf
      have hl1 : Aside0 ((xs.take j ++ [x]).length = j + 1) := ⟨by rw [List.length_append, List.length_take, hlen.out, Nat.min_eq_left hj]; rfl⟩
      clear hnx hK hxm q0 q1 q2 q3 q4 q5 q6 q7
      go_wp2_with fail
      go_region_law
        (first
          | (refine Kd.R_append_step kV (w0 := wr) (w.heap.size + 3) (by rfl) (.tmp 17) (.tmp 24) 24 27 zV 112 (by rfl) Tryz.underlying24 infoV (by rfl) (by decide) (by omega) (.slice VA j vc) (xs.take j) x [.int .i64 x.kind, .bool x.truth, .bool x.neg, .string x.digits, .int .i64 x.exp, .string x.text, .slice Al x.list.length cl, .slice Af x.fields.length cf] (fun _ => True) _ (by rfl) (by rfl) hM1.out (fun _ hk => hk) (fun _ _ => trivial) hR2.out (hb4.mono hws) (by omega) ?aL ?_; (case aL => exact (by rw [List.length_take, hlen.out]; have : min j nl ≤ nl := Nat.min_le_right _ _; omega)); intro v1 w5 hR3 hB5 hg5 hat5; clear hat5; obtain ⟨A1, c1, hv1⟩ := Kd.R_slice hR3; rw [hl1.out] at hv1; subst hv1; have hbl5 := hbl4.grown hg5 (by omega) (fun k hk => by have := Kd.R_base hR2.out k hk; omega); have hbx5 := blk_grown hbx4.out hg5 (fun e => by have := Kd.R_base hR2.out (w.heap.size + 1 + 1) e.symm; omega); have hcx5 := cellAll hbx5; have hfx5 := frozenAll hbx5; have hS5 := hSof w5 hbl5; replace hbx5 := Aside0.mk hbx5; replace hR3 := Aside0.mk hR3)
          | (go_simp; go_at_call 34; refine (cN _ (hBw.trans (hbd.mono (by omega)))).mono ?_; rintro e w4 ⟨cs', rfl, hM, hb4'⟩; obtain ⟨vl, vf, rfl, hRl, hRf⟩ := kV_openM hM; unfold JV.cells at hM; obtain ⟨Al, cl, rfl⟩ := Kd.R_slice hRl; obtain ⟨Af, cf, rfl⟩ := Kd.R_slice hRf; unfold JV.cells; clear hRl hRf; have hM1 := kV.M_lower (base' := w.heap.size + 3) hws (Kd.M_new hM hown.out); have hR2 := Kd.R_below hRd.out hb4'; have hb4 := hbd.trans hb4'; have hbs4 := hb4.size; have hbl4 := hb4.mono (B' := w.heap.size + 2) (by omega); have hbx4 := (hb4.block _ (blk_lt hbx.out)).trans hbx.out; have hcx4 := cellAll hbx4; have hfx4 := frozenAll hbx4; have hS4 := hSof w4 hbl4; have hcxa := cellAll ((heap_alloc_old w4 (.cells #[.int .i64 x.kind, .bool x.truth, .bool x.neg, .string x.digits, .int .i64 x.exp, .string x.text, .slice Al x.list.length cl, .slice Af x.fields.length cf] 27) (blk_lt hbx4)).trans hbx4); replace hM1 := Aside0.mk hM1; replace hR2 := Aside0.mk hR2; replace hbx4 := Aside0.mk hbx4; clear hM))
      all_goals (go_wp2_with fail)
      all_goals go_roundw
      all_goals (try (case measure => first | (simp [intOf]; done) | (simp [intOf]; omega)))
      all_goals (refine ⟨j + 1, .slice A1 (j + 1) c1, by go_num, by omega, blk_set hbx5.out 6 _, ?_, set_far (hB.trans (hbl5.mono (by omega))) (by omega) _⟩)
      all_goals (rw [show xs.take (j + 1) = xs.take j ++ [x] by rw [List.take_add_one, hx.out, Option.toList_some]])
      all_goals (exact Kd.R_mono (Kd.R_far (p := ⟨w.heap.size + 1 + 1, 6, none⟩) (ok := fun k => w.heap.size + 3 ≤ k) (Kd.R_mono (Kd.R_bound hR3.out) (fun k hk => hk.2.1)) (fun k hk => by show k ≠ w.heap.size + 1 + 1; omega) _) (fun _ _ => trivial))
    · obtain rfl : j = nl := by omega
      have hall : xs.take j = xs := by rw [← hlen.out, List.take_length]
      rw [hall] at hR
      replace hR := Aside0.mk hR
      have hbxo := hbx
      replace hbx := Aside0.mk hbx
      have hno : ¬ (j : Int) < (j : Int) := by omega
      go_wp2_with fail
      have hlenf := hCf.1
      have hllf := wtF_len fs
      have hnf : nf ≤ 4294967296 := by omega
      have hRl0 : kV.R 27 wr (w.heap.size + 3) (fun k => w.heap.size + 3 ≤ k ∧ k < wr.heap.size) (.slice VA j vc) xs := Kd.R_mono (Kd.R_bound hR.out) (fun k hk => ⟨hk.2.1, hk.2.2.1⟩)
      have hz4 : w.heap.size + 3 ≤ wr.heap.size := by have := hB.size; omega
      replace hlenf := Aside0.mk hlenf
      clear hbf hcf hcx hfx
      rename World => W4
      go_loopw [5] (fun i wr => ∃ (j2 : Nat) (v2 : Value), i = .int .i64 j2 ∧ j2 ≤ nf ∧ wr.heap[w.heap.size + 1 + 1]? = some (.cells #[.int .i64 k, .bool t, .bool ng, .string ds, .int .i64 ex, .string tx, .slice VA j vc, v2] 27 (0, 0)) ∧ kF.R 68 wr (w.heap.size + 3) (fun _ => True) v2 (fs.take j2) ∧ (∀ q, v2.ownBlock = some q → W4.heap.size ≤ q) ∧ kV.R 27 wr (w.heap.size + 3) (fun k => w.heap.size + 3 ≤ k ∧ k < W4.heap.size) (.slice VA j vc) xs ∧ Below (w.heap.size + 2) W3 wr ∧ W4.heap.size ≤ wr.heap.size) (fun i _ => nf - (intOf i).toNat)
      case atStart => exact ⟨0, _, rfl, Nat.zero_le _, hbxo, R_nilF _ _ _, (fun q hq => by simp [Value.ownBlock] at hq), hRl0, hB, Nat.le_refl _⟩
      case round =>
        clear hB hbxo hbx hRl0 hR
        obtain ⟨j2, v2, rfl, hj2, hbx, hR, hown2, hRl, hB, hz5⟩ := hrel
        obtain ⟨VA2, vc2, hv⟩ := Kd.R_slice hR
        rw [show (fs.take j2).length = j2 by rw [List.length_take, hlenf.out]; omega] at hv
        subst hv
        have hbf := (hB.block w.heap.size (by omega)).trans f0.out
        have hcf := cellAll hbf
        have hcx := cellAll hbx
        have hfx := frozenAll hbx
        have hBw : Below w.heap.size w wr := hB3.out.trans (hB.mono (by omega))
        by_cases hlt2 : j2 < nf
        · obtain ⟨ad, x, A6, c6, A7, c7, rfl, hx, hcs, l6, g6, l7, g7⟩ := at_F hCf j2 hlt2
          have hK := kV_mkK l6 g6 l7 g7
          unfold JV.cells at hcs hK
          obtain ⟨q0, q1, q2, q3, q4, q5, q6, q7, q8, _⟩ := hcs
          have hxm : x ∈ fs := List.mem_of_getElem? hx
          have hnx := hokf x hxm
          have hwx := wt_memF hxm
          have cN := fun (W : World) (hb : Below w.heap.size w W) => hnx W _ (kV.K_below hb hK) (by omega)
          have hSof : ∀ W, Below (w.heap.size + 2) wr W → W.cell? ⟨w.heap.size, 7, none⟩ = some (.slice (some ad) nf d) ∧ W.cell? (ad.add (j2 * 9)) = some (.string x.name) ∧ W.cell? ⟨(ad.add (j2 * 9)).block, (ad.add (j2 * 9)).off + (0 + 1), none⟩ = some (.int .i64 x.value.kind) ∧ W.cell? ⟨(ad.add (j2 * 9)).block, (ad.add (j2 * 9)).off + (1 + 1), none⟩ = some (.bool x.value.truth) ∧ W.cell? ⟨(ad.add (j2 * 9)).block, (ad.add (j2 * 9)).off + (2 + 1), none⟩ = some (.bool x.value.neg) ∧ W.cell? ⟨(ad.add (j2 * 9)).block, (ad.add (j2 * 9)).off + (3 + 1), none⟩ = some (.string x.value.digits) ∧ W.cell? ⟨(ad.add (j2 * 9)).block, (ad.add (j2 * 9)).off + (4 + 1), none⟩ = some (.int .i64 x.value.exp) ∧ W.cell? ⟨(ad.add (j2 * 9)).block, (ad.add (j2 * 9)).off + (5 + 1), none⟩ = some (.string x.value.text) ∧ W.cell? ⟨(ad.add (j2 * 9)).block, (ad.add (j2 * 9)).off + (6 + 1), none⟩ = some (.slice A6 x.value.list.length c6) ∧ W.cell? ⟨(ad.add (j2 * 9)).block, (ad.add (j2 * 9)).off + (7 + 1), none⟩ = some (.slice A7 x.value.fields.length c7) := fun W hb => by
            have hbw := hBw.trans (hb.mono (by omega))
            refine ⟨cellAll ((hb.block w.heap.size (by omega)).trans hbf) 7, ?_, ?_, ?_, ?_, ?_, ?_, ?_, ?_, ?_⟩ <;> first | exact pw_cell_below hbw q0 | exact pw_cell_below hbw q1 | exact pw_cell_below hbw q2 | exact pw_cell_below hbw q3 | exact pw_cell_below hbw q4 | exact pw_cell_below hbw q5 | exact pw_cell_below hbw q6 | exact pw_cell_below hbw q7 | exact pw_cell_below hbw q8
          have hS0 := hSof wr (Below.refl _ _)
          have hS1 := hSof wr.drew (Below.refl _ _).drew
          have hbd : Below wr.heap.size wr wr.drew := (Below.refl _ _).drew
          have hRd := Kd.R_below hR hbd
          obtain ⟨inner, hown⟩ := Kd.R_own hRd
          have hws : w.heap.size + 3 ≤ wr.heap.size := by have := hB.size; omega
          have hj1 : (j2 : Int) < (nf : Int) := by omega
          have hj0 : (0 : Int) ≤ (j2 : Int) := by omega
          replace hR := Aside0.mk hR
          replace hRl := Aside0.mk hRl
          replace hRd := Aside0.mk hRd
          replace hown := Aside0.mk hown
          replace hown2 := Aside0.mk hown2
          replace hx := Aside0.mk hx
          replace hbx := Aside0.mk hbx
          replace hbf := Aside0.mk hbf
          have hl1 : Aside0 ((fs.take j2 ++ [x]).length = j2 + 1) := ⟨by rw [List.length_append, List.length_take, hlenf.out, Nat.min_eq_left hj2]; rfl⟩
          clear hnx hK hxm q0 q1 q2 q3 q4 q5 q6 q7 q8
          go_wp2_with fail
          go_region_law
            (first
              | (refine Kd.R_append_step kF (w0 := wr) (w.heap.size + 3) (by rfl) (.tmp 35) (.tmp 50) 25 68 zF 128 (by rfl) Tryz.underlying25 infoF (by rfl) (by decide) (by omega) (.slice VA2 j2 vc2) (fs.take j2) x [.string x.name, .int .i64 x.value.kind, .bool x.value.truth, .bool x.value.neg, .string x.value.digits, .int .i64 x.value.exp, .string x.value.text, .slice Al x.value.list.length cl, .slice Af x.value.fields.length cf] (fun _ => True) _ (by rfl) (by rfl) hM1.out (fun _ hk => hk) (fun _ _ => trivial) hR2.out (hb4.mono hws) (by omega) ?aL ?_; (case aL => exact (by rw [List.length_take, hlenf.out]; have : min j2 nf ≤ nf := Nat.min_le_right _ _; omega)); intro v1 w5 hR3 hB5 hg5 hat5; have hown5 := Aside0.mk (put_own hat5 hown2.out (Nat.le_trans hz5 hbs4)); have hRl5 := Aside0.mk (Kd.R_grown hRl4.out hg5 (fun k hk e => by have := hown2.out k e.symm; omega)); clear hat5; obtain ⟨A1, c1, hv1⟩ := Kd.R_slice hR3; rw [hl1.out] at hv1; subst hv1; have hbl5 := hbl4.grown hg5 (by omega) (fun k hk => by have := Kd.R_base hR2.out k hk; omega); have hz5' := hg5.size; have hbx5 := blk_grown hbx4.out hg5 (fun e => by have := Kd.R_base hR2.out (w.heap.size + 1 + 1) e.symm; omega); have hcx5 := cellAll hbx5; have hfx5 := frozenAll hbx5; have hS5 := hSof w5 hbl5; replace hbx5 := Aside0.mk hbx5; replace hR3 := Aside0.mk hR3)
              | (go_simp; go_at_call 34; refine (cN _ (hBw.trans (hbd.mono (by omega)))).mono ?_; rintro e w4 ⟨cs', rfl, hM, hb4'⟩; obtain ⟨vl, vf, rfl, hRl9, hRf9⟩ := kV_openM hM; unfold JV.cells at hM; obtain ⟨Al, cl, rfl⟩ := Kd.R_slice hRl9; obtain ⟨Af, cf, rfl⟩ := Kd.R_slice hRf9; unfold JV.cells; clear hRl9 hRf9; have hM0 := kV.M_lower (base' := w.heap.size + 3) hws (Kd.M_new hM hown.out); have hM1 : kF.M w4 (w.heap.size + 3) _ x [.string x.name, .int .i64 x.value.kind, .bool x.value.truth, .bool x.value.neg, .string x.value.digits, .int .i64 x.value.exp, .string x.value.text, .slice Al x.value.list.length cl, .slice Af x.value.fields.length cf] := ⟨[.string x.name], _, rfl, rfl, hM0⟩; have hR2 := Kd.R_below hRd.out hb4'; have hb4 := hbd.trans hb4'; have hbs4 := hb4.size; have hRl4 := Aside0.mk (Kd.R_below hRl.out hb4); have hbl4 := hb4.mono (B' := w.heap.size + 2) (by omega); have hbx4 := (hb4.block _ (blk_lt hbx.out)).trans hbx.out; have hcx4 := cellAll hbx4; have hfx4 := frozenAll hbx4; have hS4 := hSof w4 hbl4; have hcxa := cellAll ((heap_alloc_old w4 (.cells #[.string x.name, .int .i64 x.value.kind, .bool x.value.truth, .bool x.value.neg, .string x.value.digits, .int .i64 x.value.exp, .string x.value.text, .slice Al x.value.list.length cl, .slice Af x.value.fields.length cf] 68) (blk_lt hbx4)).trans hbx4); replace hM1 := Aside0.mk hM1; replace hR2 := Aside0.mk hR2; replace hbx4 := Aside0.mk hbx4; clear hM hM0))
          all_goals (go_wp2_with fail)
          all_goals go_roundw
          all_goals (try (case measure => first | (simp [intOf]; done) | (simp [intOf]; omega)))
          all_goals (refine ⟨j2 + 1, .slice A1 (j2 + 1) c1, by go_num, by omega, blk_set hbx5.out 7 _, ?_, hown5.out, Kd.R_far (p := ⟨w.heap.size + 1 + 1, 7, none⟩) hRl5.out (fun k hk => by show k ≠ w.heap.size + 1 + 1; omega) _, set_far (hB.trans (hbl5.mono (by omega))) (by omega) _, by simp; omega⟩)
          all_goals (rw [show fs.take (j2 + 1) = fs.take j2 ++ [x] by rw [List.take_add_one, hx.out, Option.toList_some]])
          all_goals (exact Kd.R_mono (Kd.R_far (p := ⟨w.heap.size + 1 + 1, 7, none⟩) (ok := fun k => w.heap.size + 3 ≤ k) (Kd.R_mono (Kd.R_bound hR3.out) (fun k hk => hk.2.1)) (fun k hk => by show k ≠ w.heap.size + 1 + 1; omega) _) (fun _ _ => trivial))
        · obtain rfl : j2 = nf := by omega
          have hb1 := (hB.block (w.heap.size + 1) (by omega)).trans f1.out
          have hc1 := cellAll hb1
          have hf1 := frozenAll hb1
          have hallf : fs.take j2 = fs := by rw [← hlenf.out, List.take_length]
          rw [hallf] at hR
          clear hb1 hbf
          replace hR := Aside0.mk hR
          replace hRl := Aside0.mk hRl
          replace hbx := Aside0.mk hbx
          have hno2 : ¬ (j2 : Int) < (j2 : Int) := by omega
          go_wp2_with fail
          refine bodyPost_ret (v := .agg #[.int .i64 k, .bool t, .bool ng, .string ds, .int .i64 ex, .string tx, .slice VA j vc, .slice VA2 j2 vc2]) (by simp [results, Tryz.results34, go_sem, hc1]) rfl ⟨[.int .i64 k, .bool t, .bool ng, .string ds, .int .i64 ex, .string tx, .slice VA j vc, .slice VA2 j2 vc2], rfl, ?_, ?_⟩
          · exact kV_mkM (x := .mk k t ng ds ex tx xs fs) (R_setsV (W := W3) (by rw [hs3]; exact Kd.R_mono hRl.out (fun _ _ => trivial)) (by omega) (by omega)) (R_setsF (W := W3) (by rw [hs3]; exact hR.out) (by omega) (by omega))
          · iterate 8 refine below_set ?_ (by omega)
            exact hBw
theorem copied_all : ∀ (n : Nat) (x : JV), x.wt ≤ n → CopyOK x
  | 0, .mk k t ng ds ex tx l f, h => by rw [JV.wt] at h; omega
  | n + 1, .mk k t ng ds ex tx l f, h => by
    intro w cs hK hwt
    rw [JV.wt] at h hwt
    obtain ⟨A, c, B, d, rfl, hlc, hCl, hfc, hCf⟩ := kV_open hK
    simp only [JV.list, JV.fields] at *
    unfold JV.cells
    simp only [JV.kind, JV.truth, JV.neg, JV.digits, JV.exp, JV.text]
    exact copied_step w k t ng ds tx ex A B _ c _ d l f hCl hCf hlc hfc (fun y hy => copied_all n y (by have := wt_memL hy; omega)) (fun g hg => copied_all n _ (by have := wt_memF hg; omega)) (by omega) (by omega)
/-- **voyageref02.Copied.** -/
theorem copied_any (x : JV) : CopyOK x := copied_all _ x (Nat.le_refl _)
end Go.Proofs.YtmfijfcikecglaaGreatDoor
end
