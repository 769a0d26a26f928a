/- voyageref02.Copied: a value again, in memory of its own . voyageref02.Lend. voyageref02.At, Get. A field found by its name in a value's one form: plainly. voyageref02.Get. What is lent is what Turn writes over. -/
import Derived.Test.YtkdeleafgailhaaGreatDoorN31
import Derived.Test.YtkdeleafgailhaaGreatDoorN26
import Derived.Test.YtkdeleafgailhaaGreatDoorN10
import Derived.Test.YtkdeleafgailhaaGreatDoorN27
section
set_option linter.unusedVariables false
set_option linter.unusedSimpArgs false
namespace Go.Proofs.YtkdeleafgailhaaGreatDoor
open Go Go.RowKit Go.Proofs.YtkdeleafgailhaaGreatDoorW.PrintWords

def CopyOK (x : JV) : Prop := ∀ (w : World) (cs : List Value), kV.K w x cs → x.wt ≤ 4294967296 →
  Calls Tryz.prog 31 #[.agg cs.toArray] w fun e w' => ∃ cs', e = .returned (.agg cs'.toArray) ∧ kV.M w' w.heap.size (fun _ => True) x cs' ∧ Below w.heap.size w w'

theorem R_setsF {W W1 : World} {g base : Nat} {v : Value} {out : List JF} {u0 u1 u2 u3 u4 u5 u6 u7 : Value} (h : kF.R 69 W1 W.heap.size (fun _ => True) v out) (hg : g < W.heap.size) (hb : base ≤ W.heap.size) :
    kF.R 69 ((((((((W1.setCell ⟨g, 0, none⟩ u0).setCell ⟨g, 1, none⟩ u1).setCell ⟨g, 2, none⟩ u2).setCell ⟨g, 3, none⟩ u3).setCell ⟨g, 4, none⟩ u4).setCell ⟨g, 5, none⟩ u5).setCell ⟨g, 6, none⟩ u6).setCell ⟨g, 7, none⟩ u7) base (fun _ => True) v out := by
  refine Kd.R_lower (Kd.R_mono (Kd.R_keep (ok := fun k => W.heap.size ≤ k) (g := g) (Kd.R_mono (Kd.R_bound h) (fun k hk => hk.2.1)) ?_ (fun k hk => by omega)) (fun _ _ => trivial)) hb
  exact ((((((((KeepBut.refl _ _ _).set_ _ _).set_ _ _).set_ _ _).set_ _ _).set_ _ _).set_ _ _).set_ _ _).set_ _ _

set_option maxRecDepth 100000 in
set_option maxHeartbeats 8000000 in
theorem copied_step (w : World) (k : Int) (t ng : Bool) (ds tx : ByteArray) (ex : Int) (A B : Option Addr) (nl c nf d : Nat) (xs : List JV) (fs : List JF) (hC : kV.C w A nl xs) (hCf : kF.C w B nf fs) (hnc : nl ≤ c) (hnd : nf ≤ d) (hok : ∀ y ∈ xs, CopyOK y) (hokf : ∀ f ∈ fs, CopyOK f.value) (hwt : JV.wtL xs ≤ 4294967296) (hwf : JV.wtF fs ≤ 4294967296) :
    Calls Tryz.prog 31 #[.agg #[.int .i64 k, .bool t, .bool ng, .string ds, .int .i64 ex, .string tx, .slice A nl c, .slice B nf d]] w fun e w' => ∃ cs', e = .returned (.agg cs'.toArray) ∧ kV.M w' w.heap.size (fun _ => True) (.mk k t ng ds ex tx xs fs) cs' ∧ Below w.heap.size w w' := by
  have hB0 := ((Below.refl _ w).alloc (Nat.le_refl _) (.cells #[.int .i64 k, .bool t, .bool ng, .string ds, .int .i64 ex, .string tx, .slice A nl c, .slice B nf d] 27)).alloc (by simp) (.cells #[.int .i64 0, .bool false, .bool false, .string ⟨#[]⟩, .int .i64 0, .string ⟨#[]⟩, .slice none 0 0, .slice none 0 0] 27)
  have hlen := hC.1
  have hll := wtL_len xs
  have hnl : nl ≤ 4294967296 := by omega
  obtain ⟨e0, e1⟩ := boxes' w (.cells #[.int .i64 k, .bool t, .bool ng, .string ds, .int .i64 ex, .string tx, .slice A nl c, .slice B nf d] 27) (.cells #[.int .i64 0, .bool false, .bool false, .string ⟨#[]⟩, .int .i64 0, .string ⟨#[]⟩, .slice none 0 0, .slice none 0 0] 27)
  go_enter Tryz.func31, Tryz.ntmps31
  go_wp2_with fail
  obtain ⟨W3, hW3⟩ : ∃ W3, (((w.alloc (.cells #[.int .i64 k, .bool t, .bool ng, .string ds, .int .i64 ex, .string tx, .slice A nl c, .slice B nf d] 27)).alloc (.cells #[.int .i64 0, .bool false, .bool false, .string ⟨#[]⟩, .int .i64 0, .string ⟨#[]⟩, .slice none 0 0, .slice none 0 0] 27)).alloc (.cells #[.int .i64 k, .bool t, .bool ng, .string ds, .int .i64 ex, .string tx, .slice none 0 0, .slice none 0 0] 27)) = W3 := ⟨_, rfl⟩
  have f2 := heap_alloc_new ((w.alloc (.cells #[.int .i64 k, .bool t, .bool ng, .string ds, .int .i64 ex, .string tx, .slice A nl c, .slice B nf d] 27)).alloc (.cells #[.int .i64 0, .bool false, .bool false, .string ⟨#[]⟩, .int .i64 0, .string ⟨#[]⟩, .slice none 0 0, .slice none 0 0] 27)) (.cells #[.int .i64 k, .bool t, .bool ng, .string ds, .int .i64 ex, .string tx, .slice none 0 0, .slice none 0 0] 27)
  have f0 := (heap_alloc_old _ (.cells #[.int .i64 k, .bool t, .bool ng, .string ds, .int .i64 ex, .string tx, .slice none 0 0, .slice none 0 0] 27) (blk_lt e0)).trans e0
  have f1 := (heap_alloc_old _ (.cells #[.int .i64 k, .bool t, .bool ng, .string ds, .int .i64 ex, .string tx, .slice none 0 0, .slice none 0 0] 27) (blk_lt e1)).trans e1
  have hB3 := hB0.alloc (by simp; omega) (.cells #[.int .i64 k, .bool t, .bool ng, .string ds, .int .i64 ex, .string tx, .slice none 0 0, .slice none 0 0] 27)
  have hs2 : ((w.alloc (.cells #[.int .i64 k, .bool t, .bool ng, .string ds, .int .i64 ex, .string tx, .slice A nl c, .slice B nf d] 27)).alloc (.cells #[.int .i64 0, .bool false, .bool false, .string ⟨#[]⟩, .int .i64 0, .string ⟨#[]⟩, .slice none 0 0, .slice none 0 0] 27)).heap.size = w.heap.size + 1 + 1 := by simp
  have hs3 : W3.heap.size = w.heap.size + 3 := by rw [← hW3]; simp
  rw [hs2] at f2
  rw [hW3] at f0 f1 f2 hB3 ⊢
  clear hW3 hs2 e0 e1 hB0
  replace hlen := Aside0.mk hlen
  replace f0 := Aside0.mk f0
  replace f1 := Aside0.mk f1
  replace f2 := Aside0.mk f2
  replace hB3 := Aside0.mk hB3
  go_loopw [4] (fun i wr => ∃ (j : Nat) (v : Value), i = .int .i64 j ∧ j ≤ nl ∧ wr.heap[w.heap.size + 1 + 1]? = some (.cells #[.int .i64 k, .bool t, .bool ng, .string ds, .int .i64 ex, .string tx, v, .slice none 0 0] 27 (0, 0)) ∧ kV.R 27 wr (w.heap.size + 3) (fun _ => True) v (xs.take j) ∧ Below (w.heap.size + 2) W3 wr) (fun i _ => nl - (intOf i).toNat)
  case atStart => exact ⟨0, _, rfl, Nat.zero_le _, f2.out, R_nilV _ _ _, Below.refl _ _⟩
  case round =>
    obtain ⟨j, v, rfl, hj, hbx, hR, hB⟩ := hrel
    obtain ⟨VA, vc, hv⟩ := Kd.R_slice hR
    rw [show (xs.take j).length = j by rw [List.length_take, hlen.out]; omega] at hv
    subst hv
    have hbf := (hB.block w.heap.size (by omega)).trans f0.out
    have hcf := cellAll hbf
    have hcx := cellAll hbx
    have hfx := frozenAll hbx
    have hBw : Below w.heap.size w wr := hB3.out.trans (hB.mono (by omega))
    by_cases hlt : j < nl
    · obtain ⟨ad, x, A6, c6, A7, c7, rfl, hx, hcs, l6, g6, l7, g7⟩ := at_V hC j hlt
      have hK := kV_mkK l6 g6 l7 g7
      unfold JV.cells at hcs hK
      obtain ⟨q0, q1, q2, q3, q4, q5, q6, q7, _⟩ := hcs
      have hxm : x ∈ xs := List.mem_of_getElem? hx
      have hnx := hok x hxm
      have hwx := wt_memL hxm
      have cN := fun (W : World) (hb : Below w.heap.size w W) => hnx W _ (kV.K_below hb hK) (by omega)
      have hSof : ∀ W, Below (w.heap.size + 2) wr W → W.cell? ⟨w.heap.size, 6, none⟩ = some (.slice (some ad) nl c) ∧ W.cell? (ad.add (j * 8)) = some (.int .i64 x.kind) ∧ W.cell? ⟨(ad.add (j * 8)).block, (ad.add (j * 8)).off + (0 + 1), none⟩ = some (.bool x.truth) ∧ W.cell? ⟨(ad.add (j * 8)).block, (ad.add (j * 8)).off + (1 + 1), none⟩ = some (.bool x.neg) ∧ W.cell? ⟨(ad.add (j * 8)).block, (ad.add (j * 8)).off + (2 + 1), none⟩ = some (.string x.digits) ∧ W.cell? ⟨(ad.add (j * 8)).block, (ad.add (j * 8)).off + (3 + 1), none⟩ = some (.int .i64 x.exp) ∧ W.cell? ⟨(ad.add (j * 8)).block, (ad.add (j * 8)).off + (4 + 1), none⟩ = some (.string x.text) ∧ W.cell? ⟨(ad.add (j * 8)).block, (ad.add (j * 8)).off + (5 + 1), none⟩ = some (.slice A6 x.list.length c6) ∧ W.cell? ⟨(ad.add (j * 8)).block, (ad.add (j * 8)).off + (6 + 1), none⟩ = some (.slice A7 x.fields.length c7) := fun W hb => by
        have hbw := hBw.trans (hb.mono (by omega))
        refine ⟨cellAll ((hb.block w.heap.size (by omega)).trans hbf) 6, ?_, ?_, ?_, ?_, ?_, ?_, ?_, ?_⟩ <;> first | exact pw_cell_below hbw q0 | exact pw_cell_below hbw q1 | exact pw_cell_below hbw q2 | exact pw_cell_below hbw q3 | exact pw_cell_below hbw q4 | exact pw_cell_below hbw q5 | exact pw_cell_below hbw q6 | exact pw_cell_below hbw q7
      have hS0 := hSof wr (Below.refl _ _)
      have hS1 := hSof wr.drew (Below.refl _ _).drew
      have hbd : Below wr.heap.size wr wr.drew := (Below.refl _ _).drew
      have hRd := Kd.R_below hR hbd
      obtain ⟨inner, hown⟩ := Kd.R_own hRd
      have hws : w.heap.size + 3 ≤ wr.heap.size := by have := hB.size; omega
      have hj1 : (j : Int) < (nl : Int) := by omega
      have hj0 : (0 : Int) ≤ (j : Int) := by omega
      replace hR := Aside0.mk hR
      replace hRd := Aside0.mk hRd
      replace hown := Aside0.mk hown
      replace hx := Aside0.mk hx
      replace hbx := Aside0.mk hbx
      replace hbf := Aside0.mk hbf
      have hl1 : Aside0 ((xs.take j ++ [x]).length = j + 1) := ⟨by rw [List.length_append, List.length_take, hlen.out, Nat.min_eq_left hj]; rfl⟩
      clear hnx hK hxm q0 q1 q2 q3 q4 q5 q6 q7
      go_wp2_with fail
      go_region_law
        (first
          | (refine Kd.R_append_step kV (w0 := wr) (w.heap.size + 3) (by rfl) (.tmp 17) (.tmp 24) 24 27 zV 112 (by rfl) Tryz.underlying24 infoV (by rfl) (by decide) (by omega) (.slice VA j vc) (xs.take j) x [.int .i64 x.kind, .bool x.truth, .bool x.neg, .string x.digits, .int .i64 x.exp, .string x.text, .slice Al x.list.length cl, .slice Af x.fields.length cf] (fun _ => True) _ (by rfl) (by rfl) hM1.out (fun _ hk => hk) (fun _ _ => trivial) hR2.out (hb4.mono hws) (by omega) ?aL ?_; (case aL => exact (by rw [List.length_take, hlen.out]; have : min j nl ≤ nl := Nat.min_le_right _ _; omega)); intro v1 w5 hR3 hB5 hg5 hat5; clear hat5; obtain ⟨A1, c1, hv1⟩ := Kd.R_slice hR3; rw [hl1.out] at hv1; subst hv1; have hbl5 := hbl4.grown hg5 (by omega) (fun k hk => by have := Kd.R_base hR2.out k hk; omega); have hbx5 := blk_grown hbx4.out hg5 (fun e => by have := Kd.R_base hR2.out (w.heap.size + 1 + 1) e.symm; omega); have hcx5 := cellAll hbx5; have hfx5 := frozenAll hbx5; have hS5 := hSof w5 hbl5; replace hbx5 := Aside0.mk hbx5; replace hR3 := Aside0.mk hR3)
          | (go_simp; go_at_call 31; refine (cN _ (hBw.trans (hbd.mono (by omega)))).mono ?_; rintro e w4 ⟨cs', rfl, hM, hb4'⟩; obtain ⟨vl, vf, rfl, hRl, hRf⟩ := kV_openM hM; unfold JV.cells at hM; obtain ⟨Al, cl, rfl⟩ := Kd.R_slice hRl; obtain ⟨Af, cf, rfl⟩ := Kd.R_slice hRf; unfold JV.cells; clear hRl hRf; have hM1 := kV.M_lower (base' := w.heap.size + 3) hws (Kd.M_new hM hown.out); have hR2 := Kd.R_below hRd.out hb4'; have hb4 := hbd.trans hb4'; have hbs4 := hb4.size; have hbl4 := hb4.mono (B' := w.heap.size + 2) (by omega); have hbx4 := (hb4.block _ (blk_lt hbx.out)).trans hbx.out; have hcx4 := cellAll hbx4; have hfx4 := frozenAll hbx4; have hS4 := hSof w4 hbl4; have hcxa := cellAll ((heap_alloc_old w4 (.cells #[.int .i64 x.kind, .bool x.truth, .bool x.neg, .string x.digits, .int .i64 x.exp, .string x.text, .slice Al x.list.length cl, .slice Af x.fields.length cf] 27) (blk_lt hbx4)).trans hbx4); replace hM1 := Aside0.mk hM1; replace hR2 := Aside0.mk hR2; replace hbx4 := Aside0.mk hbx4; clear hM))
      all_goals (go_wp2_with fail)
      all_goals go_roundw
      all_goals (try (case measure => first | (simp [intOf]; done) | (simp [intOf]; omega)))
      all_goals (refine ⟨j + 1, .slice A1 (j + 1) c1, by go_num, by omega, blk_set hbx5.out 6 _, ?_, set_far (hB.trans (hbl5.mono (by omega))) (by omega) _⟩)
      all_goals (rw [show xs.take (j + 1) = xs.take j ++ [x] by rw [List.take_add_one, hx.out, Option.toList_some]])
      all_goals (exact Kd.R_mono (Kd.R_far (p := ⟨w.heap.size + 1 + 1, 6, none⟩) (ok := fun k => w.heap.size + 3 ≤ k) (Kd.R_mono (Kd.R_bound hR3.out) (fun k hk => hk.2.1)) (fun k hk => by show k ≠ w.heap.size + 1 + 1; omega) _) (fun _ _ => trivial))
    · obtain rfl : j = nl := by omega
      have hall : xs.take j = xs := by rw [← hlen.out, List.take_length]
      rw [hall] at hR
      replace hR := Aside0.mk hR
      have hbxo := hbx
      replace hbx := Aside0.mk hbx
      have hno : ¬ (j : Int) < (j : Int) := by omega
      go_wp2_with fail
      have hlenf := hCf.1
      have hllf := wtF_len fs
      have hnf : nf ≤ 4294967296 := by omega
      have hRl0 : kV.R 27 wr (w.heap.size + 3) (fun k => w.heap.size + 3 ≤ k ∧ k < wr.heap.size) (.slice VA j vc) xs := Kd.R_mono (Kd.R_bound hR.out) (fun k hk => ⟨hk.2.1, hk.2.2.1⟩)
      have hz4 : w.heap.size + 3 ≤ wr.heap.size := by have := hB.size; omega
      replace hlenf := Aside0.mk hlenf
      clear hbf hcf hcx hfx
      rename World => W4
      go_loopw [5] (fun i wr => ∃ (j2 : Nat) (v2 : Value), i = .int .i64 j2 ∧ j2 ≤ nf ∧ wr.heap[w.heap.size + 1 + 1]? = some (.cells #[.int .i64 k, .bool t, .bool ng, .string ds, .int .i64 ex, .string tx, .slice VA j vc, v2] 27 (0, 0)) ∧ kF.R 69 wr (w.heap.size + 3) (fun _ => True) v2 (fs.take j2) ∧ (∀ q, v2.ownBlock = some q → W4.heap.size ≤ q) ∧ kV.R 27 wr (w.heap.size + 3) (fun k => w.heap.size + 3 ≤ k ∧ k < W4.heap.size) (.slice VA j vc) xs ∧ Below (w.heap.size + 2) W3 wr ∧ W4.heap.size ≤ wr.heap.size) (fun i _ => nf - (intOf i).toNat)
      case atStart => exact ⟨0, _, rfl, Nat.zero_le _, hbxo, R_nilF _ _ _, (fun q hq => by simp [Value.ownBlock] at hq), hRl0, hB, Nat.le_refl _⟩
      case round =>
        clear hB hbxo hbx hRl0 hR
        obtain ⟨j2, v2, rfl, hj2, hbx, hR, hown2, hRl, hB, hz5⟩ := hrel
        obtain ⟨VA2, vc2, hv⟩ := Kd.R_slice hR
        rw [show (fs.take j2).length = j2 by rw [List.length_take, hlenf.out]; omega] at hv
        subst hv
        have hbf := (hB.block w.heap.size (by omega)).trans f0.out
        have hcf := cellAll hbf
        have hcx := cellAll hbx
        have hfx := frozenAll hbx
        have hBw : Below w.heap.size w wr := hB3.out.trans (hB.mono (by omega))
        by_cases hlt2 : j2 < nf
        · obtain ⟨ad, x, A6, c6, A7, c7, rfl, hx, hcs, l6, g6, l7, g7⟩ := at_F hCf j2 hlt2
          have hK := kV_mkK l6 g6 l7 g7
          unfold JV.cells at hcs hK
          obtain ⟨q0, q1, q2, q3, q4, q5, q6, q7, q8, _⟩ := hcs
          have hxm : x ∈ fs := List.mem_of_getElem? hx
          have hnx := hokf x hxm
          have hwx := wt_memF hxm
          have cN := fun (W : World) (hb : Below w.heap.size w W) => hnx W _ (kV.K_below hb hK) (by omega)
          have hSof : ∀ W, Below (w.heap.size + 2) wr W → W.cell? ⟨w.heap.size, 7, none⟩ = some (.slice (some ad) nf d) ∧ W.cell? (ad.add (j2 * 9)) = some (.string x.name) ∧ W.cell? ⟨(ad.add (j2 * 9)).block, (ad.add (j2 * 9)).off + (0 + 1), none⟩ = some (.int .i64 x.value.kind) ∧ W.cell? ⟨(ad.add (j2 * 9)).block, (ad.add (j2 * 9)).off + (1 + 1), none⟩ = some (.bool x.value.truth) ∧ W.cell? ⟨(ad.add (j2 * 9)).block, (ad.add (j2 * 9)).off + (2 + 1), none⟩ = some (.bool x.value.neg) ∧ W.cell? ⟨(ad.add (j2 * 9)).block, (ad.add (j2 * 9)).off + (3 + 1), none⟩ = some (.string x.value.digits) ∧ W.cell? ⟨(ad.add (j2 * 9)).block, (ad.add (j2 * 9)).off + (4 + 1), none⟩ = some (.int .i64 x.value.exp) ∧ W.cell? ⟨(ad.add (j2 * 9)).block, (ad.add (j2 * 9)).off + (5 + 1), none⟩ = some (.string x.value.text) ∧ W.cell? ⟨(ad.add (j2 * 9)).block, (ad.add (j2 * 9)).off + (6 + 1), none⟩ = some (.slice A6 x.value.list.length c6) ∧ W.cell? ⟨(ad.add (j2 * 9)).block, (ad.add (j2 * 9)).off + (7 + 1), none⟩ = some (.slice A7 x.value.fields.length c7) := fun W hb => by
            have hbw := hBw.trans (hb.mono (by omega))
            refine ⟨cellAll ((hb.block w.heap.size (by omega)).trans hbf) 7, ?_, ?_, ?_, ?_, ?_, ?_, ?_, ?_, ?_⟩ <;> first | exact pw_cell_below hbw q0 | exact pw_cell_below hbw q1 | exact pw_cell_below hbw q2 | exact pw_cell_below hbw q3 | exact pw_cell_below hbw q4 | exact pw_cell_below hbw q5 | exact pw_cell_below hbw q6 | exact pw_cell_below hbw q7 | exact pw_cell_below hbw q8
          have hS0 := hSof wr (Below.refl _ _)
          have hS1 := hSof wr.drew (Below.refl _ _).drew
          have hbd : Below wr.heap.size wr wr.drew := (Below.refl _ _).drew
          have hRd := Kd.R_below hR hbd
          obtain ⟨inner, hown⟩ := Kd.R_own hRd
          have hws : w.heap.size + 3 ≤ wr.heap.size := by have := hB.size; omega
          have hj1 : (j2 : Int) < (nf : Int) := by omega
          have hj0 : (0 : Int) ≤ (j2 : Int) := by omega
          replace hR := Aside0.mk hR
          replace hRl := Aside0.mk hRl
          replace hRd := Aside0.mk hRd
          replace hown := Aside0.mk hown
          replace hown2 := Aside0.mk hown2
          replace hx := Aside0.mk hx
          replace hbx := Aside0.mk hbx
          replace hbf := Aside0.mk hbf
          have hl1 : Aside0 ((fs.take j2 ++ [x]).length = j2 + 1) := ⟨by rw [List.length_append, List.length_take, hlenf.out, Nat.min_eq_left hj2]; rfl⟩
          clear hnx hK hxm q0 q1 q2 q3 q4 q5 q6 q7 q8
          go_wp2_with fail
          go_region_law
            (first
              | (refine Kd.R_append_step kF (w0 := wr) (w.heap.size + 3) (by rfl) (.tmp 35) (.tmp 50) 25 69 zF 128 (by rfl) Tryz.underlying25 infoF (by rfl) (by decide) (by omega) (.slice VA2 j2 vc2) (fs.take j2) x [.string x.name, .int .i64 x.value.kind, .bool x.value.truth, .bool x.value.neg, .string x.value.digits, .int .i64 x.value.exp, .string x.value.text, .slice Al x.value.list.length cl, .slice Af x.value.fields.length cf] (fun _ => True) _ (by rfl) (by rfl) hM1.out (fun _ hk => hk) (fun _ _ => trivial) hR2.out (hb4.mono hws) (by omega) ?aL ?_; (case aL => exact (by rw [List.length_take, hlenf.out]; have : min j2 nf ≤ nf := Nat.min_le_right _ _; omega)); intro v1 w5 hR3 hB5 hg5 hat5; have hown5 := Aside0.mk (put_own hat5 hown2.out (Nat.le_trans hz5 hbs4)); have hRl5 := Aside0.mk (Kd.R_grown hRl4.out hg5 (fun k hk e => by have := hown2.out k e.symm; omega)); clear hat5; obtain ⟨A1, c1, hv1⟩ := Kd.R_slice hR3; rw [hl1.out] at hv1; subst hv1; have hbl5 := hbl4.grown hg5 (by omega) (fun k hk => by have := Kd.R_base hR2.out k hk; omega); have hz5' := hg5.size; have hbx5 := blk_grown hbx4.out hg5 (fun e => by have := Kd.R_base hR2.out (w.heap.size + 1 + 1) e.symm; omega); have hcx5 := cellAll hbx5; have hfx5 := frozenAll hbx5; have hS5 := hSof w5 hbl5; replace hbx5 := Aside0.mk hbx5; replace hR3 := Aside0.mk hR3)
              | (go_simp; go_at_call 31; refine (cN _ (hBw.trans (hbd.mono (by omega)))).mono ?_; rintro e w4 ⟨cs', rfl, hM, hb4'⟩; obtain ⟨vl, vf, rfl, hRl9, hRf9⟩ := kV_openM hM; unfold JV.cells at hM; obtain ⟨Al, cl, rfl⟩ := Kd.R_slice hRl9; obtain ⟨Af, cf, rfl⟩ := Kd.R_slice hRf9; unfold JV.cells; clear hRl9 hRf9; have hM0 := kV.M_lower (base' := w.heap.size + 3) hws (Kd.M_new hM hown.out); have hM1 : kF.M w4 (w.heap.size + 3) _ x [.string x.name, .int .i64 x.value.kind, .bool x.value.truth, .bool x.value.neg, .string x.value.digits, .int .i64 x.value.exp, .string x.value.text, .slice Al x.value.list.length cl, .slice Af x.value.fields.length cf] := ⟨[.string x.name], _, rfl, rfl, hM0⟩; have hR2 := Kd.R_below hRd.out hb4'; have hb4 := hbd.trans hb4'; have hbs4 := hb4.size; have hRl4 := Aside0.mk (Kd.R_below hRl.out hb4); have hbl4 := hb4.mono (B' := w.heap.size + 2) (by omega); have hbx4 := (hb4.block _ (blk_lt hbx.out)).trans hbx.out; have hcx4 := cellAll hbx4; have hfx4 := frozenAll hbx4; have hS4 := hSof w4 hbl4; have hcxa := cellAll ((heap_alloc_old w4 (.cells #[.string x.name, .int .i64 x.value.kind, .bool x.value.truth, .bool x.value.neg, .string x.value.digits, .int .i64 x.value.exp, .string x.value.text, .slice Al x.value.list.length cl, .slice Af x.value.fields.length cf] 69) (blk_lt hbx4)).trans hbx4); replace hM1 := Aside0.mk hM1; replace hR2 := Aside0.mk hR2; replace hbx4 := Aside0.mk hbx4; clear hM hM0))
          all_goals (go_wp2_with fail)
          all_goals go_roundw
          all_goals (try (case measure => first | (simp [intOf]; done) | (simp [intOf]; omega)))
          all_goals (refine ⟨j2 + 1, .slice A1 (j2 + 1) c1, by go_num, by omega, blk_set hbx5.out 7 _, ?_, hown5.out, Kd.R_far (p := ⟨w.heap.size + 1 + 1, 7, none⟩) hRl5.out (fun k hk => by show k ≠ w.heap.size + 1 + 1; omega) _, set_far (hB.trans (hbl5.mono (by omega))) (by omega) _, by simp; omega⟩)
          all_goals (rw [show fs.take (j2 + 1) = fs.take j2 ++ [x] by rw [List.take_add_one, hx.out, Option.toList_some]])
          all_goals (exact Kd.R_mono (Kd.R_far (p := ⟨w.heap.size + 1 + 1, 7, none⟩) (ok := fun k => w.heap.size + 3 ≤ k) (Kd.R_mono (Kd.R_bound hR3.out) (fun k hk => hk.2.1)) (fun k hk => by show k ≠ w.heap.size + 1 + 1; omega) _) (fun _ _ => trivial))
        · obtain rfl : j2 = nf := by omega
          have hb1 := (hB.block (w.heap.size + 1) (by omega)).trans f1.out
          have hc1 := cellAll hb1
          have hf1 := frozenAll hb1
          have hallf : fs.take j2 = fs := by rw [← hlenf.out, List.take_length]
          rw [hallf] at hR
          clear hb1 hbf
          replace hR := Aside0.mk hR
          replace hRl := Aside0.mk hRl
          replace hbx := Aside0.mk hbx
          have hno2 : ¬ (j2 : Int) < (j2 : Int) := by omega
          go_wp2_with fail
          refine bodyPost_ret (v := .agg #[.int .i64 k, .bool t, .bool ng, .string ds, .int .i64 ex, .string tx, .slice VA j vc, .slice VA2 j2 vc2]) (by simp [results, Tryz.results31, go_sem, hc1]) rfl ⟨[.int .i64 k, .bool t, .bool ng, .string ds, .int .i64 ex, .string tx, .slice VA j vc, .slice VA2 j2 vc2], rfl, ?_, ?_⟩
          · exact kV_mkM (x := .mk k t ng ds ex tx xs fs) (R_setsV (W := W3) (by rw [hs3]; exact Kd.R_mono hRl.out (fun _ _ => trivial)) (by omega) (by omega)) (R_setsF (W := W3) (by rw [hs3]; exact hR.out) (by omega) (by omega))
          · iterate 8 refine below_set ?_ (by omega)
            exact hBw
theorem copied_all : ∀ (n : Nat) (x : JV), x.wt ≤ n → CopyOK x
  | 0, .mk k t ng ds ex tx l f, h => by rw [JV.wt] at h; omega
  | n + 1, .mk k t ng ds ex tx l f, h => by
    intro w cs hK hwt
    rw [JV.wt] at h hwt
    obtain ⟨A, c, B, d, rfl, hlc, hCl, hfc, hCf⟩ := kV_open hK
    simp only [JV.list, JV.fields] at *
    unfold JV.cells
    simp only [JV.kind, JV.truth, JV.neg, JV.digits, JV.exp, JV.text]
    exact copied_step w k t ng ds tx ex A B _ c _ d l f hCl hCf hlc hfc (fun y hy => copied_all n y (by have := wt_memL hy; omega)) (fun g hg => copied_all n _ (by have := wt_memF hg; omega)) (by omega) (by omega)
/-- **voyageref02.Copied.** -/
theorem copied_any (x : JV) : CopyOK x := copied_all _ x (Nat.le_refl _)
end Go.Proofs.YtkdeleafgailhaaGreatDoor
end
section
set_option linter.unusedVariables false
set_option linter.unusedSimpArgs false
namespace Go.Proofs.YtkdeleafgailhaaGreatDoor
open Go Go.RowKit Go.Proofs.YtkdeleafgailhaaGreatDoorW.PrintWords

/-- A store into what is lent: its V, or its was. -/
theorem Lnt.setP {w0 w W : World} {tb : Nat} {P : Nat → Value} {ok : Nat → Prop} {vl vf : Value} {ls : List (List JV)} {fs : List (List JF)} (h : Lnt w0 w W tb P ok vl vf ls fs) (hw : w.heap[tb]? = none ∨ ∃ cs, w.heap[tb]? = some (.cells cs 36 (0, 0))) (i : Nat) (hi : i < 16) (u : Value) : Lnt w0 w (W.setCell ⟨tb, i, none⟩ u) tb (fun k => if k = i then u else P k) ok vl vf ls fs := by
  have hLE : ∀ q, q ∈ 24 :: kLL.E → q ≠ 36 := fun q hq => by
    have hq' : q ∈ 24 :: 27 :: kV.E := hq
    rcases List.mem_cons.1 hq' with rfl | hq'
    · decide
    · exact (EV_kept (rowV_E hq')).1
  have hFE : ∀ q, q ∈ 25 :: kFF.E → q ≠ 36 := fun q hq => by
    have hq' : q ∈ 25 :: 69 :: kF.E := hq
    rcases List.mem_cons.1 hq' with rfl | hq'
    · decide
    · exact (EV_kept (rowF_E hq')).1
  refine ⟨?_, Kd.R_set h.rl h.blk hLE i u, Kd.R_set h.rf h.blk hFE i u, h.low.setCell h.tbg u, ?_, by rw [World.size_setCell]; exact h.sz, h.tbg, h.w0w⟩
  · rw [blk_set h.blk i u]
    have h16 : ∀ i, i < 16 → (#[P 0, P 1, P 2, P 3, P 4, P 5, P 6, P 7, P 8, P 9, P 10, P 11, P 12, P 13, P 14, P 15, vl, vf] : Array Value).setIfInBounds i u = #[if 0 = i then u else P 0, if 1 = i then u else P 1, if 2 = i then u else P 2, if 3 = i then u else P 3, if 4 = i then u else P 4, if 5 = i then u else P 5, if 6 = i then u else P 6, if 7 = i then u else P 7, if 8 = i then u else P 8, if 9 = i then u else P 9, if 10 = i then u else P 10, if 11 = i then u else P 11, if 12 = i then u else P 12, if 13 = i then u else P 13, if 14 = i then u else P 14, if 15 = i then u else P 15, vl, vf] := by
      intro i hi
      match i, hi with
      | 0, _ => rfl
      | 1, _ => rfl
      | 2, _ => rfl
      | 3, _ => rfl
      | 4, _ => rfl
      | 5, _ => rfl
      | 6, _ => rfl
      | 7, _ => rfl
      | 8, _ => rfl
      | 9, _ => rfl
      | 10, _ => rfl
      | 11, _ => rfl
      | 12, _ => rfl
      | 13, _ => rfl
      | 14, _ => rfl
      | 15, _ => rfl
      | n + 16, h => exact absurd h (by omega)
    rw [h16 i hi]
  · intro b cs q hb h1 h2 h3
    have hne : b ≠ tb := by
      rintro rfl
      rcases hw with hw | ⟨cs', hw⟩
      · rw [hw] at hb; cases hb
      · rw [hw] at hb
        injection hb with hb
        injection hb with _ ht
        exact h1 ht.symm
    rw [Below.heap_setCell W ⟨tb, i, none⟩ u b hne]
    exact h.old b cs q hb h1 h2 h3

end Go.Proofs.YtkdeleafgailhaaGreatDoor
end
section
set_option linter.unusedVariables false
set_option linter.unusedSimpArgs false
namespace Go.Proofs.YtkdeleafgailhaaGreatDoor
open Go Go.RowKit Go.Proofs.YtkdeleafgailhaaGreatDoorW.PrintWords

set_option maxRecDepth 100000 in
set_option maxHeartbeats 4000000 in
theorem rat_no (w : World) (k : Int) (t ng : Bool) (ds tx : ByteArray) (ex : Int) (A B : Option Addr) (n c m d : Nat) (i : Int) (h : ¬ (k = 4 ∧ 0 ≤ i ∧ i < (n : Int))) :
    Calls Tryz.prog 16 #[.agg #[.int .i64 k, .bool t, .bool ng, .string ds, .int .i64 ex, .string tx, .slice A n c, .slice B m d], .int .i64 i] w (Gives w (JV.nul, false)) := by
  have hB0 := ((Below.refl _ w).alloc (Nat.le_refl _) (.cells #[.int .i64 k, .bool t, .bool ng, .string ds, .int .i64 ex, .string tx, .slice A n c, .slice B m d] 27)).alloc (by simp) (.cells #[.int .i64 0, .bool false, .bool false, .string ⟨#[]⟩, .int .i64 0, .string ⟨#[]⟩, .slice none 0 0, .slice none 0 0] 27)
  by_cases h4 : k = 4
  · subst h4
    by_cases h0 : i < 0
    · go_enter Tryz.func16, Tryz.ntmps16
      go_wp2_with fail
      refine bodyPost_ret (v := .tuple #[.agg #[.int .i64 0, .bool false, .bool false, .string ⟨#[]⟩, .int .i64 0, .string ⟨#[]⟩, .slice none 0 0, .slice none 0 0], .bool false]) (by simp [results, Tryz.results16, go_sem]) rfl ⟨[.int .i64 0, .bool false, .bool false, .string ⟨#[]⟩, .int .i64 0, .string ⟨#[]⟩, .slice none 0 0, .slice none 0 0], rfl, kV_mkM (x := JV.nul) (R_nilV _ _ _) (R_nilF _ _ _), hB0⟩
    · have hn : (n : Int) ≤ i := by omega
      go_enter Tryz.func16, Tryz.ntmps16
      go_wp2_with fail
      refine bodyPost_ret (v := .tuple #[.agg #[.int .i64 0, .bool false, .bool false, .string ⟨#[]⟩, .int .i64 0, .string ⟨#[]⟩, .slice none 0 0, .slice none 0 0], .bool false]) (by simp [results, Tryz.results16, go_sem]) rfl ⟨[.int .i64 0, .bool false, .bool false, .string ⟨#[]⟩, .int .i64 0, .string ⟨#[]⟩, .slice none 0 0, .slice none 0 0], rfl, kV_mkM (x := JV.nul) (R_nilV _ _ _) (R_nilF _ _ _), hB0⟩
  · have b4 : (k == 4) = false := by simpa using h4
    have n4 : (k != 4) = true := by simpa using h4
    go_enter Tryz.func16, Tryz.ntmps16
    go_wp2_with fail
    refine bodyPost_ret (v := .tuple #[.agg #[.int .i64 0, .bool false, .bool false, .string ⟨#[]⟩, .int .i64 0, .string ⟨#[]⟩, .slice none 0 0, .slice none 0 0], .bool false]) (by simp [results, Tryz.results16, go_sem]) rfl ⟨[.int .i64 0, .bool false, .bool false, .string ⟨#[]⟩, .int .i64 0, .string ⟨#[]⟩, .slice none 0 0, .slice none 0 0], rfl, kV_mkM (x := JV.nul) (R_nilV _ _ _) (R_nilF _ _ _), hB0⟩

set_option maxRecDepth 100000 in
set_option maxHeartbeats 4000000 in
theorem rat_yes (w : World) (t ng : Bool) (ds tx : ByteArray) (ex : Int) (A B : Option Addr) (n c m d : Nat) (i : Nat) (xs : List JV) (hn : n ≤ 4294967296) (hnc : n ≤ c) (hC : kV.C w A n xs) (hi : i < n) (hwt : JV.wtL xs ≤ 4294967296) (hin : JV.intsL xs) :
    Calls Tryz.prog 16 #[.agg #[.int .i64 4, .bool t, .bool ng, .string ds, .int .i64 ex, .string tx, .slice A n c, .slice B m d], .int .i64 i] w (Gives w ((xs.getD i JV.nul).norm, true)) := by
  have hB0 := ((Below.refl _ w).alloc (Nat.le_refl _) (.cells #[.int .i64 4, .bool t, .bool ng, .string ds, .int .i64 ex, .string tx, .slice A n c, .slice B m d] 27)).alloc (by simp) (.cells #[.int .i64 0, .bool false, .bool false, .string ⟨#[]⟩, .int .i64 0, .string ⟨#[]⟩, .slice none 0 0, .slice none 0 0] 27)
  obtain ⟨e0, e1⟩ := boxes' w (.cells #[.int .i64 4, .bool t, .bool ng, .string ds, .int .i64 ex, .string tx, .slice A n c, .slice B m d] 27) (.cells #[.int .i64 0, .bool false, .bool false, .string ⟨#[]⟩, .int .i64 0, .string ⟨#[]⟩, .slice none 0 0, .slice none 0 0] 27)
  have hlen := hC.1
  obtain ⟨ad, x, A6, c6, A7, c7, rfl, hx, hcs, l6, g6, l7, g7⟩ := at_V (Kd.C_below hC hB0) i hi
  have hK := kV_mkK l6 g6 l7 g7
  unfold JV.cells at hcs hK
  obtain ⟨q0, q1, q2, q3, q4, q5, q6, q7, _⟩ := hcs
  have hxm : x ∈ xs := List.mem_of_getElem? hx
  have hwx := wt_memL hxm
  have cN := rnorm_any x _ _ hK (by omega) (ints_memL hxm hin)
  have hxd : xs.getD i JV.nul = x := by rw [List.getD_eq_getElem?_getD, hx]; rfl
  rw [hxd]
  replace hx := Aside0.mk hx
  replace hB0 := Aside0.mk hB0
  replace e1 := Aside0.mk e1
  clear hC hxd hK hlen e0
  go_enter Tryz.func16, Tryz.ntmps16
  go_wp2_with (go_at_call 18; refine cN.mono ?_; rintro e w' ⟨cs', rfl, hM, hb⟩; have hb1 := (hb.block (w.heap.size + 1) (by simp)).trans e1.out; have hc1 := cellAll hb1; have hf1 := frozenAll hb1; clear hb1; obtain ⟨vl, vf, rfl, hRl, hRf⟩ := kV_openM hM; obtain ⟨Al, cl, rfl⟩ := Kd.R_slice hRl; obtain ⟨Af, cf, rfl⟩ := Kd.R_slice hRf; unfold JV.cells; clear hM; replace hRl := Aside0.mk hRl; replace hRf := Aside0.mk hRf)
  refine bodyPost_ret (v := .tuple #[.agg #[.int .i64 x.norm.kind, .bool x.norm.truth, .bool x.norm.neg, .string x.norm.digits, .int .i64 x.norm.exp, .string x.norm.text, .slice Al x.norm.list.length cl, .slice Af x.norm.fields.length cf], .bool true]) (by simp [results, Tryz.results16, go_sem, hc1]) rfl ⟨[.int .i64 x.norm.kind, .bool x.norm.truth, .bool x.norm.neg, .string x.norm.digits, .int .i64 x.norm.exp, .string x.norm.text, .slice Al x.norm.list.length cl, .slice Af x.norm.fields.length cf], rfl, ?_, ?_⟩
  · exact kV_mkM (x := x.norm) (R_setsV hRl.out (by simp) (by simp; omega)) (R_sets hRf.out (by simp) (by simp; omega))
  · iterate 8 refine below_set ?_ (by omega)
    exact hB0.out.trans (hb.mono (by simp; omega))
/-- **voyageref02.At.** -/
theorem rat_any (x : JV) (i : Int) (w : World) (cs : List Value) (hK : kV.K w x cs) (hwt : x.wt ≤ 4294967296) (hin : x.ints) :
    Calls Tryz.prog 16 #[.agg cs.toArray, .int .i64 i] w (Gives w (x.at_ i)) := by
  obtain ⟨A, c, B, d, rfl, hV⟩ := VC.of hK
  obtain ⟨k, t, ng, ds, ex, tx, l, f⟩ := x
  obtain ⟨_, hlc, hCl, hfc, hCf⟩ := hV
  have hll := wtL_len l
  rw [JV.wt] at hwt
  rw [JV.ints] at hin
  unfold JV.at_
  unfold JV.cells
  simp only [JV.kind, JV.truth, JV.neg, JV.digits, JV.exp, JV.text, JV.list, JV.fields] at *
  unfold atL
  by_cases h : k = 4 ∧ 0 ≤ i ∧ i < (l.length : Int)
  · rw [if_pos h]
    obtain ⟨rfl, h0, h1⟩ := h
    obtain ⟨i, rfl⟩ := Int.eq_ofNat_of_zero_le h0
    exact rat_yes w t ng ds tx ex A B _ c _ d i l (by omega) hlc hCl (by omega) (by omega) hin.2.2.1
  · rw [if_neg h]
    exact rat_no w k t ng ds tx ex A B _ c _ d i h

end Go.Proofs.YtkdeleafgailhaaGreatDoor
end
section
set_option linter.unusedVariables false
set_option linter.unusedSimpArgs false
namespace Go.Proofs.YtkdeleafgailhaaGreatDoor
open Go Go.RowKit Go.Proofs.YtkdeleafgailhaaGreatDoorW.PrintWords

def named (nm : ByteArray) (f : JF) : Bool := decide (f.name = nm)
theorem find_insF (out : List JF) (name nm : ByteArray) (v : JV) : (insF out name v).find? (named nm) = (out.find? (named nm)).or (if name = nm then some (.mk name v) else none) := by
  unfold insF
  by_cases ha : out.any (fun f => sameB f.name name) = true
  · rw [if_pos ha]
    by_cases hn : name = nm
    · obtain ⟨f, hf, hs⟩ := List.any_eq_true.1 ha
      have hfn : f.name = nm := (sameB_iff.1 hs).trans hn
      cases hq : out.find? (named nm) with
      | some g => rfl
      | none =>
        have := List.find?_eq_none.1 hq f hf
        exact absurd (decide_eq_true hfn) this
    · rw [if_neg hn]; simp
  · rw [if_neg ha]
    have hsp : out = out.takeWhile (fun f => lessB f.name name) ++ out.dropWhile (fun f => lessB f.name name) := List.takeWhile_append_dropWhile.symm
    rw [List.find?_append, List.find?_cons]
    by_cases hn : name = nm
    · have hq : ∀ f ∈ out, named nm f = false := fun f hf => by
        cases h2 : named nm f with
        | false => rfl
        | true =>
          have : f.name = nm := of_decide_eq_true h2
          exact absurd (List.any_eq_true.2 ⟨f, hf, sameB_iff.2 (this.trans hn.symm)⟩) ha
      have hq1 : (out.takeWhile (fun f => lessB f.name name)).find? (named nm) = none := List.find?_eq_none.2 fun f hf => by
        rw [hq f (by rw [hsp]; exact List.mem_append_left _ hf)]; exact Bool.false_ne_true
      have hq2 : out.find? (named nm) = none := List.find?_eq_none.2 fun f hf => by rw [hq f hf]; exact Bool.false_ne_true
      have hd : named nm (.mk name v) = true := decide_eq_true hn
      rw [hq1, hq2, if_pos hn, hd]
      try rfl
    · have hd : named nm (.mk name v) = false := decide_eq_false hn
      rw [if_neg hn, hd]
      conv => rhs; rw [hsp, List.find?_append]
      simp
theorem find_normF (nm : ByteArray) : ∀ (l out : List JF), (JV.normF l out).find? (named nm) = (out.find? (named nm)).or ((l.find? (fun f => decide (clean f.name = nm))).map fun f => .mk (clean f.name) f.value.norm)
  | [], out => by rw [JV.normF]; simp
  | .mk name v :: l, out => by
    rw [JV.normF, find_normF nm l, find_insF, List.find?_cons]
    show _ = (out.find? (named nm)).or (Option.map _ (match decide (clean name = nm) with | true => some (JF.mk name v) | false => _))
    by_cases hn : clean name = nm
    · rw [if_pos hn, decide_eq_true hn]
      cases out.find? (named nm) <;> rfl
    · rw [if_neg hn, decide_eq_false hn]
      cases out.find? (named nm) <;> rfl
/-- Get of a value is the field of its one form. -/
theorem get_is (x : JV) (name : ByteArray) : x.get_ name = match x.norm.fields.find? (named (clean name)) with
  | some f => (f.value, true)
  | none => (JV.nul, false) := by
  obtain ⟨k, t, ng, ds, ex, tx, l, f⟩ := x
  unfold JV.get_ getK
  show (if k = 5 then getF f (clean name) else (JV.nul, false)) = _
  by_cases h5 : k = 5
  · subst h5
    rw [if_pos rfl]
    have e : (JV.mk 5 t ng ds ex tx l f).norm = .mk 5 false false ⟨#[]⟩ 0 ⟨#[]⟩ [] (JV.normF f []) := by
      rw [JV.norm]; rfl
    rw [e]
    show getF f (clean name) = match (JV.normF f []).find? (named (clean name)) with | some f => _ | none => _
    rw [find_normF]
    unfold getF
    cases f.find? (fun f => decide (clean f.name = clean name)) <;> rfl
  · rw [if_neg h5]
    have e : (JV.mk k t ng ds ex tx l f).norm.fields = [] := by
      rw [JV.norm]
      by_cases h1 : k = 1
      · rw [if_pos h1]; rfl
      by_cases h2 : k = 2
      · rw [if_neg h1, if_pos h2]; rfl
      by_cases h3 : k = 3
      · rw [if_neg h1, if_neg h2, if_pos h3]; rfl
      by_cases h4 : k = 4
      · rw [if_neg h1, if_neg h2, if_neg h3, if_pos h4]; rfl
      rw [if_neg h1, if_neg h2, if_neg h3, if_neg h4, if_neg h5]
      rfl
    rw [e]
    rfl
end Go.Proofs.YtkdeleafgailhaaGreatDoor
end
section
set_option linter.unusedVariables false
set_option linter.unusedSimpArgs false
namespace Go.Proofs.YtkdeleafgailhaaGreatDoor
open Go Go.RowKit Go.Proofs.YtkdeleafgailhaaGreatDoorW.PrintWords

/-- An element of a row of one's own. -/
theorem R_get {α : Type} {d : Kd α} {e : Nat} {w : World} {base : Nat} {ok : Nat → Prop} {v : Value} {xs : List α} (h : d.R e w base ok v xs) (j : Nat) (x : α) (hj : xs[j]? = some x) : ∃ g cap c, v = .slice (some ⟨g, 0, none⟩) xs.length cap ∧ d.M w base (fun k => ok k ∧ some k ≠ v.ownBlock) x c ∧ ∀ i u, i < d.sz → c[i]? = some u → w.cell? ⟨g, j * d.sz + i, none⟩ = some u := by
  obtain ⟨h0, inner, ⟨hl, ho⟩, hr⟩ := h
  have hlt := (List.getElem?_eq_some_iff.1 hj).1
  rcases ho with ⟨_, h9⟩ | ⟨g, cap, cur, hv, hb, hh, hn, hc, hs, ht⟩
  · omega
  · refine ⟨g, cap, _, hv, hr.2 j x hj, fun i u hi hu => ?_⟩
    rw [cellAll hh]
    rw [List.getElem?_take, if_pos hi, List.getElem?_drop] at hu
    rw [← ht, List.getElem?_take] at hu
    by_cases hq : j * d.sz + i < xs.length * d.sz
    · rw [if_pos hq, Array.getElem?_toList] at hu
      exact hu
    · rw [if_neg hq] at hu; cases hu
theorem at_MF {w : World} {base : Nat} {ok : Nat → Prop} {v : Value} {xs : List JF} (h : kF.R 69 w base ok v xs) (j : Nat) (hj : j < xs.length) : ∃ g cap f A6 c6 A7 c7, v = .slice (some ⟨g, 0, none⟩) xs.length cap ∧ xs[j]? = some f ∧ (∀ i u, i < 9 → (.string f.name :: f.value.cells (.slice A6 f.value.list.length c6) (.slice A7 f.value.fields.length c7))[i]? = some u → w.cell? ⟨g, j * 9 + i, none⟩ = some u) ∧
    kV.R 27 w base (fun _ => True) (.slice A6 f.value.list.length c6) f.value.list ∧ kF.R 69 w base (fun _ => True) (.slice A7 f.value.fields.length c7) f.value.fields := by
  have hx : xs[j]? = some xs[j] := List.getElem?_eq_getElem hj
  obtain ⟨g, cap, c, hv, hM, hc⟩ := R_get h j _ hx
  obtain ⟨c0, c1, rfl, hc0, hM1⟩ := hM
  obtain ⟨l, f, rfl, hl, hf⟩ := kV_openM hM1
  obtain ⟨A6, c6, rfl⟩ := Kd.R_slice hl
  obtain ⟨A7, c7, rfl⟩ := Kd.R_slice hf
  have hc0' : c0 = [.string xs[j].name] := hc0
  subst hc0'
  exact ⟨g, cap, xs[j], A6, c6, A7, c7, hv, hx, fun i u hi hu => hc i u hi hu, Kd.R_mono hl (fun _ _ => trivial), Kd.R_mono hf (fun _ _ => trivial)⟩

def foundF (l : List JF) (nm : ByteArray) : JV × Bool := match l.find? (named nm) with
  | some f => (f.value, true)
  | none => (JV.nul, false)
theorem foundF_some {l : List JF} {nm : ByteArray} {f : JF} (h : l.find? (named nm) = some f) : foundF l nm = (f.value, true) := by unfold foundF; rw [h]
theorem foundF_none {l : List JF} {nm : ByteArray} (h : l.find? (named nm) = none) : foundF l nm = (JV.nul, false) := by unfold foundF; rw [h]
theorem get_found (x : JV) (name : ByteArray) : x.get_ name = foundF x.norm.fields (clean name) := get_is x name

set_option maxRecDepth 100000 in
set_option maxHeartbeats 8000000 in
/-- **voyageref02.Get.** -/
theorem rget_any (x : JV) (name : ByteArray) (w : World) (cs : List Value) (hK : kV.K w x cs) (hs : name.size ≤ 17592186044416) (hwt : x.wt ≤ 4294967296) (hin : x.ints) :
    Calls Tryz.prog 15 #[.agg cs.toArray, .string name] w (Gives w (x.get_ name)) := by
  obtain ⟨A, c, B, d, rfl, _⟩ := VC.of hK
  rw [get_found]
  unfold JV.cells at *
  have hB0 := ((Below.refl w.heap.size w).alloc (Nat.le_refl _) (.cells #[.int .i64 x.kind, .bool x.truth, .bool x.neg, .string x.digits, .int .i64 x.exp, .string x.text, .slice A x.list.length c, .slice B x.fields.length d] 27)).alloc (by simp) (.cells #[.int .i64 0, .bool false, .bool false, .string ⟨#[]⟩, .int .i64 0, .string ⟨#[]⟩, .slice none 0 0, .slice none 0 0] 27)
  obtain ⟨e0, e1⟩ := boxes' w (.cells #[.int .i64 x.kind, .bool x.truth, .bool x.neg, .string x.digits, .int .i64 x.exp, .string x.text, .slice A x.list.length c, .slice B x.fields.length d] 27) (.cells #[.int .i64 0, .bool false, .bool false, .string ⟨#[]⟩, .int .i64 0, .string ⟨#[]⟩, .slice none 0 0, .slice none 0 0] 27)
  have hc0 := cellAll e0
  have cN := rnorm_any x _ _ (kV.K_below hB0 hK) hwt hin
  have hwy := norm_wt x
  generalize x.norm = y at *
  have hly : y.fields.length ≤ 17179869184 := by
    have h1 : y.fields.length ≤ y.wt := by
      obtain ⟨k, t, n, ds, ex, tx, l, f⟩ := y
      rw [JV.wt]
      have := wtF_len f
      show f.length ≤ _
      omega
    omega
  replace hB0 := Aside0.mk hB0
  replace e1 := Aside0.mk e1
  replace hK := Aside0.mk hK
  clear e0
  go_enter Tryz.func15, Tryz.ntmps15
  go_wp2_with (first | (go_at_call 37; refine (rClean_any name _ hs).mono ?_; rintro e w3 ⟨rfl, hb3⟩; have h63 := (hb3.block _ (blk_lt f6.out)).trans f6.out; have hc63 := cellAll h63; have hRf3 := Kd.R_below hRf6.out hb3; have hr3 := (hb3.block _ (blk_lt hr6.out)).trans hr6.out; have hcr3 := cellAll hr3; have hfr3 := frozenAll hr3; have hBw3 := hBw6.out.trans (hb3.mono hBw6.out.size); have hz3 := hb3.size; replace hRf3 := Aside0.mk hRf3; replace hBw3 := Aside0.mk hBw3; clear h63 hr3 hb3 f6 hRf6 hr6) | (go_at_call 18; refine cN.mono ?_; rintro e w1 ⟨cs', rfl, hM, hb1⟩; obtain ⟨vl, vf, rfl, hRl, hRf⟩ := kV_openM hM; obtain ⟨Al, cl, rfl⟩ := Kd.R_slice hRl; obtain ⟨Af, cf, rfl⟩ := Kd.R_slice hRf; unfold JV.cells; clear hM hRl; have hB6 := (Below.refl w1.heap.size w1).alloc (Nat.le_refl _) (.cells #[.int .i64 y.kind, .bool y.truth, .bool y.neg, .string y.digits, .int .i64 y.exp, .string y.text, .slice Al y.list.length cl, .slice Af y.fields.length cf] 27); have f6 := heap_alloc_new w1 (.cells #[.int .i64 y.kind, .bool y.truth, .bool y.neg, .string y.digits, .int .i64 y.exp, .string y.text, .slice Al y.list.length cl, .slice Af y.fields.length cf] 27); have hRf6 := Kd.R_below hRf hB6; have hr6 := (hB6.block _ (blk_lt ((hb1.block _ (blk_lt e1.out)).trans e1.out))).trans ((hb1.block _ (blk_lt e1.out)).trans e1.out); have hBw6 := hB0.out.trans ((hb1.trans (hB6.mono hb1.size)).mono (by simp; omega)); have hz6 := hb1.size; replace f6 := Aside0.mk f6; replace hRf6 := Aside0.mk hRf6; replace hr6 := Aside0.mk hr6; replace hBw6 := Aside0.mk hBw6; clear hRf hb1 hB6))
  generalize clean name = nm at *
  go_loopw [8] (fun i wr => ∃ (j : Nat), i = .int .i64 j ∧ j ≤ y.fields.length ∧ wr = w3 ∧ Aside0 (∀ f ∈ y.fields.take j, named nm f = false)) (fun i _ => y.fields.length - (intOf i).toNat)
  case atStart => exact ⟨0, rfl, Nat.zero_le _, rfl, ⟨fun f hf => by simp at hf⟩⟩
  case round =>
    obtain ⟨j, rfl, hj, rfl, hno⟩ := hrel
    have hj0 : (0 : Int) ≤ (j : Int) := by omega
    by_cases hlt : j < y.fields.length
    · have hlt2 : (j : Int) < (y.fields.length : Int) := by omega
      obtain ⟨g, cap, f, A6, c6, A7, c7, hv, hx, hcs, hRl, hRg⟩ := at_MF hRf3.out j hlt
      injection hv with hv1 hv2 hv3
      subst hv1
      have q0 := hcs 0 _ (by decide) rfl
      have q1 := hcs 1 _ (by decide) rfl
      have q2 := hcs 2 _ (by decide) rfl
      have q3 := hcs 3 _ (by decide) rfl
      have q4 := hcs 4 _ (by decide) rfl
      have q5 := hcs 5 _ (by decide) rfl
      have q6 := hcs 6 _ (by decide) rfl
      have q7 := hcs 7 _ (by decide) rfl
      have q8 := hcs 8 _ (by decide) rfl
      rw [Nat.add_zero] at q0
      replace hx := Aside0.mk hx
      replace hRl := Aside0.mk hRl
      replace hRg := Aside0.mk hRg
      clear hcs
      by_cases he : f.name = nm
      · have hbq : (f.name.toList == nm.toList) = true := by rw [bytes_beq, decide_eq_true he]
        have hfd : Aside0 (foundF y.fields nm = (f.value, true)) := ⟨foundF_some (by
          rw [← List.take_append_drop j y.fields, List.find?_append, List.find?_eq_none.2 (fun g hg => by rw [hno.out g hg]; exact Bool.false_ne_true), List.drop_eq_getElem_cons hlt, List.find?_cons]
          have e9 : y.fields[j] = f := by
            have := hx.out
            rw [List.getElem?_eq_getElem hlt] at this
            injection this
          rw [e9, show named nm f = true from decide_eq_true he]
          rfl)⟩
        clear he
        generalize f.name = nm' at q0 hbq
        go_wp2_with fail
        rw [hfd.out]
        refine bodyPost_ret (v := .tuple #[.agg #[.int .i64 f.value.kind, .bool f.value.truth, .bool f.value.neg, .string f.value.digits, .int .i64 f.value.exp, .string f.value.text, .slice A6 f.value.list.length c6, .slice A7 f.value.fields.length c7], .bool true]) (by simp [results, Tryz.results15, go_sem, hcr3]) rfl ⟨[.int .i64 f.value.kind, .bool f.value.truth, .bool f.value.neg, .string f.value.digits, .int .i64 f.value.exp, .string f.value.text, .slice A6 f.value.list.length c6, .slice A7 f.value.fields.length c7], rfl, ?_, ?_⟩
        · exact kV_mkM (x := f.value) (R_setsV (W := (w.alloc (.cells #[.int .i64 x.kind, .bool x.truth, .bool x.neg, .string x.digits, .int .i64 x.exp, .string x.text, .slice A x.list.length c, .slice B x.fields.length d] 27)).alloc (.cells #[.int .i64 0, .bool false, .bool false, .string ⟨#[]⟩, .int .i64 0, .string ⟨#[]⟩, .slice none 0 0, .slice none 0 0] 27)) hRl.out (by simp) (by simp; omega)) (R_sets (W := (w.alloc (.cells #[.int .i64 x.kind, .bool x.truth, .bool x.neg, .string x.digits, .int .i64 x.exp, .string x.text, .slice A x.list.length c, .slice B x.fields.length d] 27)).alloc (.cells #[.int .i64 0, .bool false, .bool false, .string ⟨#[]⟩, .int .i64 0, .string ⟨#[]⟩, .slice none 0 0, .slice none 0 0] 27)) hRg.out (by simp) (by simp; omega))
        · iterate 8 refine below_set ?_ (by omega)
          exact hBw3.out
      · have hbq : (f.name.toList == nm.toList) = false := by rw [bytes_beq, decide_eq_false he]
        replace he := Aside0.mk he
        generalize f.name = nm' at q0 hbq
        go_wp2_with fail
        refine ⟨⟨j + 1, by go_num, by omega, trivial, ⟨fun f' hf => ?_⟩⟩, by first | (simp [intOf]; done) | (simp [intOf]; omega)⟩
        rw [List.take_add_one, hx.out, Option.toList_some] at hf
        rcases List.mem_append.1 hf with hf | hf
        · exact hno.out f' hf
        · rw [List.mem_singleton.1 hf]
          exact decide_eq_false he.out
    · obtain rfl : j = y.fields.length := by omega
      have hnlt : ¬ ((y.fields.length : Int) < (y.fields.length : Int)) := by omega
      have hfd : Aside0 (foundF y.fields nm = (JV.nul, false)) := ⟨foundF_none (List.find?_eq_none.2 fun g hg => by
        have := hno.out g (by rw [List.take_length]; exact hg)
        rw [this]; exact Bool.false_ne_true)⟩
      go_wp2_with fail
      rw [hfd.out]
      refine bodyPost_ret (v := .tuple #[.agg #[.int .i64 0, .bool false, .bool false, .string ⟨#[]⟩, .int .i64 0, .string ⟨#[]⟩, .slice none 0 0, .slice none 0 0], .bool false]) (by simp [results, Tryz.results15, go_sem, hcr3]) rfl ⟨[.int .i64 0, .bool false, .bool false, .string ⟨#[]⟩, .int .i64 0, .string ⟨#[]⟩, .slice none 0 0, .slice none 0 0], rfl, ?_, ?_⟩
      · exact kV_mkM (x := JV.nul) (R_nilV _ _ _) (R_nilF _ _ _)
      · iterate 8 refine below_set ?_ (by omega)
        exact hBw3.out
end Go.Proofs.YtkdeleafgailhaaGreatDoor
end
section
set_option linter.unusedVariables false
set_option linter.unusedSimpArgs false
namespace Go.Proofs.YtkdeleafgailhaaGreatDoor
open Go Go.RowKit Go.Proofs.YtkdeleafgailhaaGreatDoorW.PrintWords

theorem R_blk {α : Type} {d : Kd α} {e : Nat} {w : World} {base : Nat} {ok : Nat → Prop} {v : Value} {xs : List α} (h : d.R e w base ok v xs) (hp : 0 < xs.length) : ∃ g cap cs, v = .slice (some ⟨g, 0, none⟩) xs.length cap ∧ base ≤ g ∧ g < w.heap.size ∧ w.heap[g]? = some (.cells cs e (0, 0)) ∧ xs.length * d.sz ≤ cs.size := by
  obtain ⟨_, inner, ⟨_, ho⟩, _⟩ := h
  rcases ho with ⟨_, h0⟩ | ⟨g, cap, cur, hv, hb, hh, hn, _, hs, _⟩
  · omega
  · exact ⟨g, cap, cur, hv, hb, blk_lt hh, hh, by rw [hs]; exact Nat.mul_le_mul_right _ hn⟩
theorem addr_add (g i : Nat) : (⟨g, 0, none⟩ : Addr).add i = ⟨g, i, none⟩ := by
  simp [Addr.add]
  exact fun h => h.symm
theorem row_at {α : Type} {d : Kd α} {e eL : Nat} {w : World} {base : Nat} {ok : Nat → Prop} {v : Value} {ls : List (List α)} {LA : Option Addr} {lc : Nat} (h : (Kd.slice e d).R eL w base ok v ls) (hv : v = .slice LA ls.length lc) (he : eL ≠ 27 ∧ eL ≠ 69) (i : Nat) (hi : i < ls.length) (hl : 0 < (ls[i]).length ∧ (ls[i]).length ≤ 140737488355328) :
    ∃ ad g m c cs, RowAt w base w.heap.size e d.sz LA i ad g m c cs := by
  obtain ⟨g0, cap0, cs0, hv0, hb0, hl0, hh0, _⟩ := R_blk h (by omega)
  obtain ⟨g1, cap1, c1, hv1, hM, hc1⟩ := R_get h i _ (List.getElem?_eq_getElem hi)
  obtain ⟨u, rfl, hR⟩ := hM
  obtain ⟨g, cap, cs, rfl, hb, hlt, hh, hsz⟩ := R_blk hR hl.1
  rw [hv] at hv0 hv1
  injection hv0 with e0 _ _
  injection hv1 with e1 _ _
  have h10 : g1 = g0 := by
    rw [e0] at e1
    injection e1 with e1
    injection e1 with e1
    exact e1.symm
  subst h10
  have hc := hc1 0 _ (by show 0 < 1; omega) rfl
  have hc' : w.cell? ⟨g1, i, none⟩ = some (.slice (some ⟨g, 0, none⟩) (ls[i]).length cap) := by
    have e9 : i * (Kd.slice e d).sz + 0 = i := by show i * 1 + 0 = i; omega
    rw [e9] at hc
    exact hc
  exact ⟨⟨g1, 0, none⟩, g, _, cap, cs, ⟨e0, ⟨cs0, eL, by rw [addr_add]; exact hh0, he⟩, by rw [addr_add]; exact hc', hh, hsz, ⟨hb, hlt⟩, hl.2⟩⟩
theorem hands_of {w0 w W : World} {tb : Nat} {P : Nat → Value} {ok : Nat → Prop} {vl vf : Value} {ls : List (List JV)} {fs : List (List JF)} {LA FA : Option Addr} {lc fc : Nat} (h : Lnt w0 w W tb P ok vl vf ls fs) (hvl : vl = .slice LA ls.length lc) (hvf : vf = .slice FA fs.length fc) (hm : ∀ l ∈ ls, MkL l ∧ l.length ≤ 140737488355328) (hf : ∀ l ∈ fs, MkF l ∧ l.length ≤ 140737488355328) (h1 : ls.length ≤ 140737488355328) (h2 : fs.length ≤ 140737488355328) :
    Hands W tb w0.heap.size W.heap.size LA FA ls.length lc fs.length fc := by
  have hc := cellAll h.blk
  refine ⟨⟨_, _, h.blk, by decide, by decide⟩, ?_, ?_, fun i hi => ?_, fun i hi => ?_, h1, h2⟩
  · rw [hc 16, ← hvl]; rfl
  · rw [hc 17, ← hvf]; rfl
  · obtain ⟨⟨l0, hl0⟩, hle⟩ := hm _ (List.getElem_mem hi)
    exact row_at (d := kV) (e := 27) (eL := 24) h.rl hvl (by decide) i hi ⟨by rw [hl0, List.length_append]; simp, hle⟩
  · obtain ⟨⟨l0, hl0⟩, hle⟩ := hf _ (List.getElem_mem hi)
    exact row_at (d := kF) (e := 69) (eL := 25) h.rf hvf (by decide) i hi ⟨by rw [hl0, List.length_append]; simp, hle⟩
end Go.Proofs.YtkdeleafgailhaaGreatDoor
end
