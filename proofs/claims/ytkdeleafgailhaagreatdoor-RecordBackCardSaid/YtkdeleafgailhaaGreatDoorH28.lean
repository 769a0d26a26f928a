/- voyageref02.Norm at objects. voyageref02.Norm is JV.norm; voyageref02.Same. voyageref02.Depth tells how deep a value's one form is. Where a fault is: within the text: plain. What Parse gives is light; Parse, Norm, Print, Like of values in their one form. -/
import Derived.Test.YtkdeleafgailhaaGreatDoorH27
import Derived.Test.YtkdeleafgailhaaGreatDoorH25
import Derived.Test.YtkdeleafgailhaaGreatDoorH23
import Derived.Test.YtkdeleafgailhaaGreatDoorH10
import Derived.Test.YtkdeleafgailhaaGreatDoorH20
section
set_option linter.unusedVariables false
set_option linter.unusedSimpArgs false
namespace Go.Proofs.YtkdeleafgailhaaGreatDoor
open Go Go.RowKit Go.Proofs.YtkdeleafgailhaaGreatDoorW.PrintWords

theorem nine_far {w : World} {b k : Nat} (h : k ≠ b) (u0 u1 u2 u3 u4 u5 u6 u7 u8 : Value) : (((((((((w.setCell ⟨b, 0, none⟩ u0).setCell ⟨b, 1, none⟩ u1).setCell ⟨b, 2, none⟩ u2).setCell ⟨b, 3, none⟩ u3).setCell ⟨b, 4, none⟩ u4).setCell ⟨b, 5, none⟩ u5).setCell ⟨b, 6, none⟩ u6).setCell ⟨b, 7, none⟩ u7).setCell ⟨b, 8, none⟩ u8).heap[k]? = w.heap[k]? :=
  setCells_far [u0, u1, u2, u3, u4, u5, u6, u7, u8] 0 k h
theorem at_world {Q : Exit → Act → World → Prop} {e : Exit} {a : Act} {F : World} (P : World → Prop) (h : P F) (k : P F → Q e a F) : Q e a F := k h
theorem below_nine {B : Nat} {a w : World} {b : Nat} (h : Below B a w) (hb : B ≤ b) (u0 u1 u2 u3 u4 u5 u6 u7 u8 : Value) : Below B a (((((((((w.setCell ⟨b, 0, none⟩ u0).setCell ⟨b, 1, none⟩ u1).setCell ⟨b, 2, none⟩ u2).setCell ⟨b, 3, none⟩ u3).setCell ⟨b, 4, none⟩ u4).setCell ⟨b, 5, none⟩ u5).setCell ⟨b, 6, none⟩ u6).setCell ⟨b, 7, none⟩ u7).setCell ⟨b, 8, none⟩ u8) :=
  set_far (set_far (set_far (set_far (set_far (set_far (set_far (set_far (set_far h hb u0) hb u1) hb u2) hb u3) hb u4) hb u5) hb u6) hb u7) hb u8
set_option maxRecDepth 100000 in
set_option maxHeartbeats 8000000 in
theorem rnorm_fields (w : World) (t ng : Bool) (ds tx : ByteArray) (ex : Int) (A B : Option Addr) (nl c nf d : Nat) (fs : List JF) (hC : kF.C w B nf fs) (hnd : nf ≤ d) (hok : ∀ f ∈ fs, RNormOK f.value) (hwt : JV.wtF fs ≤ 4294967296) (hin : JV.intsF fs) :
    Calls Tryz.prog 18 #[.agg #[.int .i64 5, .bool t, .bool ng, .string ds, .int .i64 ex, .string tx, .slice A nl c, .slice B nf d]] w fun e w' => ∃ cs', e = .returned (.agg cs'.toArray) ∧ kV.M w' w.heap.size (fun _ => True) (.mk 5 false false ⟨#[]⟩ 0 ⟨#[]⟩ [] (JV.normF fs [])) cs' ∧ Below w.heap.size w w' := by
  have hB0 := ((Below.refl _ w).alloc (Nat.le_refl _) (.cells #[.int .i64 5, .bool t, .bool ng, .string ds, .int .i64 ex, .string tx, .slice A nl c, .slice B nf d] 27)).alloc (by simp) (.cells #[.int .i64 0, .bool false, .bool false, .string ⟨#[]⟩, .int .i64 0, .string ⟨#[]⟩, .slice none 0 0, .slice none 0 0] 27)
  have hlen := hC.1
  have hll := wtF_len fs
  have hnl : nf ≤ 4294967296 := by omega
  obtain ⟨e0, e1⟩ := boxes' w (.cells #[.int .i64 5, .bool t, .bool ng, .string ds, .int .i64 ex, .string tx, .slice A nl c, .slice B nf d] 27) (.cells #[.int .i64 0, .bool false, .bool false, .string ⟨#[]⟩, .int .i64 0, .string ⟨#[]⟩, .slice none 0 0, .slice none 0 0] 27)
  go_enter Tryz.func18, Tryz.ntmps18
  go_wp2_with fail
  obtain ⟨W3, hW3⟩ : ∃ W3, (((w.alloc (.cells #[.int .i64 5, .bool t, .bool ng, .string ds, .int .i64 ex, .string tx, .slice A nl c, .slice B nf d] 27)).alloc (.cells #[.int .i64 0, .bool false, .bool false, .string ⟨#[]⟩, .int .i64 0, .string ⟨#[]⟩, .slice none 0 0, .slice none 0 0] 27)).alloc (.cells #[.int .i64 5, .bool false, .bool false, .string ⟨#[]⟩, .int .i64 0, .string ⟨#[]⟩, .slice none 0 0, .slice none 0 0] 27)) = W3 := ⟨_, rfl⟩
  have f2 := heap_alloc_new ((w.alloc (.cells #[.int .i64 5, .bool t, .bool ng, .string ds, .int .i64 ex, .string tx, .slice A nl c, .slice B nf d] 27)).alloc (.cells #[.int .i64 0, .bool false, .bool false, .string ⟨#[]⟩, .int .i64 0, .string ⟨#[]⟩, .slice none 0 0, .slice none 0 0] 27)) (.cells #[.int .i64 5, .bool false, .bool false, .string ⟨#[]⟩, .int .i64 0, .string ⟨#[]⟩, .slice none 0 0, .slice none 0 0] 27)
  have f0 := (heap_alloc_old _ (.cells #[.int .i64 5, .bool false, .bool false, .string ⟨#[]⟩, .int .i64 0, .string ⟨#[]⟩, .slice none 0 0, .slice none 0 0] 27) (blk_lt e0)).trans e0
  have f1 := (heap_alloc_old _ (.cells #[.int .i64 5, .bool false, .bool false, .string ⟨#[]⟩, .int .i64 0, .string ⟨#[]⟩, .slice none 0 0, .slice none 0 0] 27) (blk_lt e1)).trans e1
  have hB3 := hB0.alloc (by simp; omega) (.cells #[.int .i64 5, .bool false, .bool false, .string ⟨#[]⟩, .int .i64 0, .string ⟨#[]⟩, .slice none 0 0, .slice none 0 0] 27)
  have hs2 : ((w.alloc (.cells #[.int .i64 5, .bool t, .bool ng, .string ds, .int .i64 ex, .string tx, .slice A nl c, .slice B nf d] 27)).alloc (.cells #[.int .i64 0, .bool false, .bool false, .string ⟨#[]⟩, .int .i64 0, .string ⟨#[]⟩, .slice none 0 0, .slice none 0 0] 27)).heap.size = w.heap.size + 1 + 1 := by simp
  have hs3 : W3.heap.size = w.heap.size + 3 := by rw [← hW3]; simp
  rw [hs2] at f2
  rw [hW3] at f0 f1 f2 hB3 ⊢
  clear hW3 hs2 e0 e1 hB0
  replace hlen := Aside0.mk hlen
  replace f0 := Aside0.mk f0
  replace f1 := Aside0.mk f1
  replace f2 := Aside0.mk f2
  replace hB3 := Aside0.mk hB3
  go_loopw [6] (fun i wr => ∃ (j : Nat) (v : Value), i = .int .i64 j ∧ j ≤ nf ∧ wr.heap[w.heap.size + 1 + 1]? = some (.cells #[.int .i64 5, .bool false, .bool false, .string ⟨#[]⟩, .int .i64 0, .string ⟨#[]⟩, .slice none 0 0, v] 27 (0, 0)) ∧ kF.R 69 wr (w.heap.size + 3) (fun _ => True) v (JV.normF (fs.take j) []) ∧ Below (w.heap.size + 2) W3 wr) (fun i _ => nf - (intOf i).toNat)
  case atStart => exact ⟨0, _, rfl, Nat.zero_le _, f2.out, R_nilF _ _ _, Below.refl _ _⟩
  case round =>
    obtain ⟨j, v, rfl, hj, hbx, hR, hB⟩ := hrel
    obtain ⟨VA, vc, hv⟩ := Kd.R_slice hR
    have hrise := rising_normF (fs.take j) [] rising_nil
    have hol := length_normF_le (fs.take j) []
    rw [List.length_take, hlen.out] at hol
    have hsnoc : ∀ x, fs[j]? = some x → JV.normF (fs.take (j + 1)) [] = insF (JV.normF (fs.take j) []) (clean x.name) x.value.norm := by
      rintro ⟨nm, v⟩ hx
      rw [List.take_add_one, hx, Option.toList_some, normF_app, JV.normF, JV.normF]
      rfl
    replace hsnoc := Aside0.mk hsnoc
    obtain ⟨m, hm⟩ : ∃ m, (JV.normF (fs.take j) []).length = m := ⟨_, rfl⟩
    rw [hm] at hv hol
    subst hv
    have hol2 : m ≤ 4294967296 := by have : min j nf ≤ j := Nat.min_le_left _ _; simp at hol; omega
    have hbf := (hB.block w.heap.size (by omega)).trans f0.out
    have hcf := cellAll hbf
    have hcx := cellAll hbx
    have hfx := frozenAll hbx
    have hBw : Below w.heap.size w wr := hB3.out.trans (hB.mono (by omega))
    clear hol
    by_cases hlt : j < nf
    · obtain ⟨ad, x, A6, c6, A7, c7, rfl, hx, hcs, l6, g6, l7, g7⟩ := at_F hC j hlt
      have hK := kV_mkK l6 g6 l7 g7
      unfold JV.cells at hcs hK
      obtain ⟨q0, q1, q2, q3, q4, q5, q6, q7, q8, _⟩ := hcs
      have hxm : x ∈ fs := List.mem_of_getElem? hx
      have hnx := hok x hxm
      have hwx := wt_memF hxm
      have hix := ints_memF hxm hin
      have cN := fun (W : World) (hb : Below w.heap.size w W) => hnx W _ (kV.K_below hb hK) (by omega) hix
      have cC := fun (W : World) => rClean_any x.name W (by omega)
      have hsn := hsnoc.out x hx
      generalize clean x.name = nm at cC hsn
      have hSof : ∀ W, Below (w.heap.size + 2) wr W → W.cell? ⟨w.heap.size, 7, none⟩ = some (.slice (some ad) nf d) ∧ W.cell? (ad.add (j * 9)) = some (.string x.name) ∧ W.cell? ⟨(ad.add (j * 9)).block, (ad.add (j * 9)).off + (0 + 1), none⟩ = some (.int .i64 x.value.kind) ∧ W.cell? ⟨(ad.add (j * 9)).block, (ad.add (j * 9)).off + (1 + 1), none⟩ = some (.bool x.value.truth) ∧ W.cell? ⟨(ad.add (j * 9)).block, (ad.add (j * 9)).off + (2 + 1), none⟩ = some (.bool x.value.neg) ∧ W.cell? ⟨(ad.add (j * 9)).block, (ad.add (j * 9)).off + (3 + 1), none⟩ = some (.string x.value.digits) ∧ W.cell? ⟨(ad.add (j * 9)).block, (ad.add (j * 9)).off + (4 + 1), none⟩ = some (.int .i64 x.value.exp) ∧ W.cell? ⟨(ad.add (j * 9)).block, (ad.add (j * 9)).off + (5 + 1), none⟩ = some (.string x.value.text) ∧ W.cell? ⟨(ad.add (j * 9)).block, (ad.add (j * 9)).off + (6 + 1), none⟩ = some (.slice A6 x.value.list.length c6) ∧ W.cell? ⟨(ad.add (j * 9)).block, (ad.add (j * 9)).off + (7 + 1), none⟩ = some (.slice A7 x.value.fields.length c7) := fun W hb => by
        have hbw := hBw.trans (hb.mono (by omega))
        refine ⟨cellAll ((hb.block w.heap.size (by omega)).trans hbf) 7, ?_, ?_, ?_, ?_, ?_, ?_, ?_, ?_, ?_⟩ <;> first | exact pw_cell_below hbw q0 | exact pw_cell_below hbw q1 | exact pw_cell_below hbw q2 | exact pw_cell_below hbw q3 | exact pw_cell_below hbw q4 | exact pw_cell_below hbw q5 | exact pw_cell_below hbw q6 | exact pw_cell_below hbw q7 | exact pw_cell_below hbw q8
      have hS0 := hSof wr (Below.refl _ _)
      have hS1 := hSof wr.drew (Below.refl _ _).drew
      have hbc : Below wr.heap.size wr wr.drew := (Below.refl _ _).drew
      have hws : w.heap.size + 3 ≤ wr.heap.size := by have := hB.size; omega
      have hSa2 := fun o => hSof (wr.alloc o).drew ((((Below.refl wr.heap.size wr).mono (by omega)).alloc (by omega) o).drew)
      have hSa1 := fun o => hSof (wr.drew.alloc o) ((hbc.mono (by omega)).alloc (by show _ ≤ wr.heap.size; omega) o)
      have hj1 : (j : Int) < (nf : Int) := by omega
      have hj0 : (0 : Int) ≤ (j : Int) := by omega
      replace hR := Aside0.mk hR
      replace hx := Aside0.mk hx
      replace hm := Aside0.mk hm
      replace hbx := Aside0.mk hbx
      replace hbf := Aside0.mk hbf
      replace hrise := Aside0.mk hrise
      clear hnx hK hxm q0 q1 q2 q3 q4 q5 q6 q7 q8 hsnoc
      replace hsn := Aside0.mk hsn
      generalize JV.normF (fs.take j) [] = out at *
      go_wp2_with fail
      go_region_held3 (fun W => W.cell? ⟨w.heap.size, 7, none⟩ = some (.slice (some ad) nf d) ∧ W.cell? (ad.add (j * 9)) = some (.string x.name) ∧ W.cell? ⟨(ad.add (j * 9)).block, (ad.add (j * 9)).off + (0 + 1), none⟩ = some (.int .i64 x.value.kind) ∧ W.cell? ⟨(ad.add (j * 9)).block, (ad.add (j * 9)).off + (1 + 1), none⟩ = some (.bool x.value.truth) ∧ W.cell? ⟨(ad.add (j * 9)).block, (ad.add (j * 9)).off + (2 + 1), none⟩ = some (.bool x.value.neg) ∧ W.cell? ⟨(ad.add (j * 9)).block, (ad.add (j * 9)).off + (3 + 1), none⟩ = some (.string x.value.digits) ∧ W.cell? ⟨(ad.add (j * 9)).block, (ad.add (j * 9)).off + (4 + 1), none⟩ = some (.int .i64 x.value.exp) ∧ W.cell? ⟨(ad.add (j * 9)).block, (ad.add (j * 9)).off + (5 + 1), none⟩ = some (.string x.value.text) ∧ W.cell? ⟨(ad.add (j * 9)).block, (ad.add (j * 9)).off + (6 + 1), none⟩ = some (.slice A6 x.value.list.length c6) ∧ W.cell? ⟨(ad.add (j * 9)).block, (ad.add (j * 9)).off + (7 + 1), none⟩ = some (.slice A7 x.value.fields.length c7))
        (first | (with_reducible exact hS0) | (with_reducible exact hS1) | (with_reducible exact hSwC) | (with_reducible exact hSwN) | (with_reducible exact hSa1 _) | (with_reducible exact hSa2 _) | (with_reducible exact hSaC _) | (with_reducible exact hSaN _) | (refine hSof _ ?_; with_reducible exact below_nine hbc8 hbc9 _ _ _ _ _ _ _ _ _) | (refine hSof _ ?_; with_reducible exact below_nine hbc8 hbc8z _ _ _ _ _ _ _ _ _))
        (first
          | (go_at_call 37; refine (cC _).mono ?_; rintro e wC ⟨rfl, hbC⟩; (first | (have hb7 := (hbC.block _ (blk_lt hb7.out)).trans hb7.out; have hc7 := cellAll hb7; have hf7 := frozenAll hb7; replace hb7 := Aside0.mk hb7) | (have hb7 := (hbC.block _ (by simp)).trans (heap_alloc_new _ _); (try rw [show wr.drew.heap.size = wr.heap.size from rfl] at hb7); have hc7 := cellAll hb7; have hf7 := frozenAll hb7; replace hb7 := Aside0.mk hb7) | skip); (try (have hb7l := blk_lt hb7.out)); (try (have hMn := Aside0.mk (a := kV.M wC wr.heap.size _ x.value.norm [.int .i64 x.value.norm.kind, .bool x.value.norm.truth, .bool x.value.norm.neg, .string x.value.norm.digits, .int .i64 x.value.norm.exp, .string x.value.norm.text, .slice Al x.value.norm.list.length cl, .slice Af x.value.norm.fields.length cf]) (by first | exact Kd.M_below hMn.out hbC | exact Kd.M_below (Kd.M_below hMn.out ((Below.refl _ _).alloc (Nat.le_refl _) _)) hbC))); have hbc : Below wr.heap.size wr wC := (by first | exact hbc.trans (hbC.mono hbc.size) | exact (hbc.alloc hbc.size _).trans (hbC.mono (hbc.alloc hbc.size _).size)); have hzwC := hbc.size; have hSwC := hSof wC (hbc.mono (by omega)); have hSaC := fun o => hSof (wC.alloc o) ((hbc.mono (by omega)).alloc (by omega) o))
          | (go_at_call 18; refine (cN _ ?hb).mono ?_; (case hb => (first | exact hBw.trans (hbc.mono (by omega)) | exact hBw.trans ((hbc.alloc hbc.size _).mono (by omega)))); rintro e wN ⟨cs', rfl, hM, hbN⟩; obtain ⟨vl, vf, rfl, hRl, hRf⟩ := kV_openM hM; unfold JV.cells at hM; obtain ⟨Al, cl, rfl⟩ := Kd.R_slice hRl; obtain ⟨Af, cf, rfl⟩ := Kd.R_slice hRf; unfold JV.cells; clear hRl hRf; (first | (have hb7 := (hbN.block _ (blk_lt hb7.out)).trans hb7.out; have hc7 := cellAll hb7; have hf7 := frozenAll hb7; replace hb7 := Aside0.mk hb7) | (have hb7 := (hbN.block _ (by simp)).trans (heap_alloc_new _ _); (try rw [show wr.drew.heap.size = wr.heap.size from rfl] at hb7); have hc7 := cellAll hb7; have hf7 := frozenAll hb7; replace hb7 := Aside0.mk hb7) | skip); have hMn := kV.M_lower (base' := wr.heap.size) (by have := hbc.size; first | omega | (simp; omega)) (kV.M_mono (fun k hk => hk.2) (kV.M_bound hM)); replace hMn := Aside0.mk hMn; have hbc : Below wr.heap.size wr wN := (by first | exact hbc.trans (hbN.mono hbc.size) | exact (hbc.alloc hbc.size _).trans (hbN.mono (hbc.alloc hbc.size _).size)); have hzwN := hbc.size; have hSwN := hSof wN (hbc.mono (by omega)); have hSaN := fun o => hSof (wN.alloc o) ((hbc.mono (by omega)).alloc (by omega) o); have hbc8 : Below (w.heap.size + 2) wr wN := hbc.mono (by omega); have hbc9 : w.heap.size + 2 ≤ wC.heap.size := (by omega); have hbc8z : w.heap.size + 2 ≤ wr.heap.size := (by omega); clear hM))
      all_goals (refine at_world (P := fun F => Below wr.heap.size wr F ∧ kV.M F wr.heap.size (fun _ => True) x.value.norm [.int .i64 x.value.norm.kind, .bool x.value.norm.truth, .bool x.value.norm.neg, .string x.value.norm.digits, .int .i64 x.value.norm.exp, .string x.value.norm.text, .slice Al x.value.norm.list.length cl, .slice Af x.value.norm.fields.length cf]) ?_ (fun hF => ?_))
      · exact ⟨hbc.alloc hzwN _, kV.M_mono (fun _ _ => trivial) (Kd.M_below hMn.out ((Below.refl _ _).alloc (Nat.le_refl _) _))⟩
      · have hbxF := (hF.1.block _ (blk_lt hbx.out)).trans hbx.out
        have hcF := cellAll hbxF
        have hfF := frozenAll hbxF
        have hzF : wr.heap.size ≤ _ := hF.1.size
        have hRF := Kd.R_below hR.out hF.1
        have hMF := kV.M_lower (base' := w.heap.size + 3) hws hF.2
        replace hbxF := Aside0.mk hbxF
        replace hRF := Aside0.mk hRF
        replace hMF := Aside0.mk hMF
        have hF1 := Aside0.mk hF.1
        clear hF
        obtain ⟨m2, hm2⟩ : ∃ m2, (insF out nm x.value.norm).length = m2 := ⟨_, rfl⟩
        replace hm2 := Aside0.mk hm2
        have hmo : out.length ≤ 4294967296 := by rw [hm.out]; exact hol2
        replace hmo := Aside0.mk hmo
        go_wp2_with (go_at_call 39; refine (put01_any (w.heap.size + 3) (.slice VA m vc) out nm x.value.norm (.slice Al x.value.norm.list.length cl) (.slice Af x.value.norm.fields.length cf) _ hRF.out hMF.out hrise.out (Nat.le_trans hws hzF) hmo.out).mono ?_; rintro e wP ⟨v1, rfl, hR1, hbP⟩; obtain ⟨A1, c1, hv1⟩ := Kd.R_slice hR1; rw [hm2.out] at hv1; subst hv1; have hbxP := (hbP.block _ (blk_lt hbxF.out)).trans hbxF.out; have hcP := cellAll hbxP; have hfP := frozenAll hbxP; replace hbxP := Aside0.mk hbxP; replace hR1 := Aside0.mk hR1; replace hbP := Aside0.mk hbP)
        go_roundw
        case rel =>
          refine ⟨j + 1, .slice A1 m2 c1, by go_num, by omega, blk_set hbxP.out 7 _, ?_, set_far ((hB.trans (hF1.out.mono (by omega))).trans (hbP.out.mono (by omega))) (by omega) _⟩
          rw [hsn.out]
          exact Kd.R_mono (Kd.R_far (p := ⟨w.heap.size + 1 + 1, 7, none⟩) (ok := fun k => w.heap.size + 3 ≤ k) (Kd.R_mono (Kd.R_bound hR1.out) (fun k hk => hk.2.1)) (fun k hk => by show k ≠ w.heap.size + 1 + 1; omega) _) (fun _ _ => trivial)
        case measure => first | (simp [intOf]; done) | (simp [intOf]; omega)
      · exact ⟨below_nine hbc hzwC _ _ _ _ _ _ _ _ _, kV.M_mono (fun _ _ => trivial) (Kd.M_step hMn.out (fun k hk _ => nine_far (by have := hk.1; simp at this; omega) _ _ _ _ _ _ _ _ _))⟩
      · have hbxF := (hF.1.block _ (blk_lt hbx.out)).trans hbx.out
        have hcF := cellAll hbxF
        have hfF := frozenAll hbxF
        have hzF : wr.heap.size ≤ _ := hF.1.size
        have hRF := Kd.R_below hR.out hF.1
        have hMF := kV.M_lower (base' := w.heap.size + 3) hws hF.2
        replace hbxF := Aside0.mk hbxF
        replace hRF := Aside0.mk hRF
        replace hMF := Aside0.mk hMF
        have hF1 := Aside0.mk hF.1
        clear hF
        obtain ⟨m2, hm2⟩ : ∃ m2, (insF out nm x.value.norm).length = m2 := ⟨_, rfl⟩
        replace hm2 := Aside0.mk hm2
        have hmo : out.length ≤ 4294967296 := by rw [hm.out]; exact hol2
        replace hmo := Aside0.mk hmo
        go_wp2_with (go_at_call 39; refine (put01_any (w.heap.size + 3) (.slice VA m vc) out nm x.value.norm (.slice Al x.value.norm.list.length cl) (.slice Af x.value.norm.fields.length cf) _ hRF.out hMF.out hrise.out (Nat.le_trans hws hzF) hmo.out).mono ?_; rintro e wP ⟨v1, rfl, hR1, hbP⟩; obtain ⟨A1, c1, hv1⟩ := Kd.R_slice hR1; rw [hm2.out] at hv1; subst hv1; have hbxP := (hbP.block _ (blk_lt hbxF.out)).trans hbxF.out; have hcP := cellAll hbxP; have hfP := frozenAll hbxP; replace hbxP := Aside0.mk hbxP; replace hR1 := Aside0.mk hR1; replace hbP := Aside0.mk hbP)
        go_roundw
        case rel =>
          refine ⟨j + 1, .slice A1 m2 c1, by go_num, by omega, blk_set hbxP.out 7 _, ?_, set_far ((hB.trans (hF1.out.mono (by omega))).trans (hbP.out.mono (by omega))) (by omega) _⟩
          rw [hsn.out]
          exact Kd.R_mono (Kd.R_far (p := ⟨w.heap.size + 1 + 1, 7, none⟩) (ok := fun k => w.heap.size + 3 ≤ k) (Kd.R_mono (Kd.R_bound hR1.out) (fun k hk => hk.2.1)) (fun k hk => by show k ≠ w.heap.size + 1 + 1; omega) _) (fun _ _ => trivial)
        case measure => first | (simp [intOf]; done) | (simp [intOf]; omega)
      · exact ⟨below_nine hbc (Nat.le_refl _) _ _ _ _ _ _ _ _ _, kV.M_mono (fun _ _ => trivial) (Kd.M_step hMn.out (fun k hk _ => nine_far (by have := hk.1; omega) _ _ _ _ _ _ _ _ _))⟩
      · have hbxF := (hF.1.block _ (blk_lt hbx.out)).trans hbx.out
        have hcF := cellAll hbxF
        have hfF := frozenAll hbxF
        have hzF : wr.heap.size ≤ _ := hF.1.size
        have hRF := Kd.R_below hR.out hF.1
        have hMF := kV.M_lower (base' := w.heap.size + 3) hws hF.2
        replace hbxF := Aside0.mk hbxF
        replace hRF := Aside0.mk hRF
        replace hMF := Aside0.mk hMF
        have hF1 := Aside0.mk hF.1
        clear hF
        obtain ⟨m2, hm2⟩ : ∃ m2, (insF out nm x.value.norm).length = m2 := ⟨_, rfl⟩
        replace hm2 := Aside0.mk hm2
        have hmo : out.length ≤ 4294967296 := by rw [hm.out]; exact hol2
        replace hmo := Aside0.mk hmo
        go_wp2_with (go_at_call 39; refine (put01_any (w.heap.size + 3) (.slice VA m vc) out nm x.value.norm (.slice Al x.value.norm.list.length cl) (.slice Af x.value.norm.fields.length cf) _ hRF.out hMF.out hrise.out (Nat.le_trans hws hzF) hmo.out).mono ?_; rintro e wP ⟨v1, rfl, hR1, hbP⟩; obtain ⟨A1, c1, hv1⟩ := Kd.R_slice hR1; rw [hm2.out] at hv1; subst hv1; have hbxP := (hbP.block _ (blk_lt hbxF.out)).trans hbxF.out; have hcP := cellAll hbxP; have hfP := frozenAll hbxP; replace hbxP := Aside0.mk hbxP; replace hR1 := Aside0.mk hR1; replace hbP := Aside0.mk hbP)
        go_roundw
        case rel =>
          refine ⟨j + 1, .slice A1 m2 c1, by go_num, by omega, blk_set hbxP.out 7 _, ?_, set_far ((hB.trans (hF1.out.mono (by omega))).trans (hbP.out.mono (by omega))) (by omega) _⟩
          rw [hsn.out]
          exact Kd.R_mono (Kd.R_far (p := ⟨w.heap.size + 1 + 1, 7, none⟩) (ok := fun k => w.heap.size + 3 ≤ k) (Kd.R_mono (Kd.R_bound hR1.out) (fun k hk => hk.2.1)) (fun k hk => by show k ≠ w.heap.size + 1 + 1; omega) _) (fun _ _ => trivial)
        case measure => first | (simp [intOf]; done) | (simp [intOf]; omega)
    · obtain rfl : j = nf := by omega
      have hb1 := (hB.block (w.heap.size + 1) (by omega)).trans f1.out
      have hc1 := cellAll hb1
      have hf1 := frozenAll hb1
      clear hb1 hbf hsnoc
      replace hR := Aside0.mk hR
      replace hbx := Aside0.mk hbx
      have hno : ¬ (j : Int) < (j : Int) := by omega
      go_wp2_with fail
      refine bodyPost_ret (v := .agg #[.int .i64 5, .bool false, .bool false, .string ⟨#[]⟩, .int .i64 0, .string ⟨#[]⟩, .slice none 0 0, .slice VA m vc]) (by simp [results, Tryz.results18, go_sem, hc1]) rfl ⟨[.int .i64 5, .bool false, .bool false, .string ⟨#[]⟩, .int .i64 0, .string ⟨#[]⟩, .slice none 0 0, .slice VA m vc], rfl, ?_, ?_⟩
      · have hfs : fs.take j = fs := by rw [← hlen.out, List.take_length]
        rw [hfs] at hR hm
        have hRo := hR.out
        rw [← hm] at hRo ⊢
        exact kV_mkM (x := .mk 5 false false ⟨#[]⟩ 0 ⟨#[]⟩ [] (JV.normF fs [])) (R_nilV _ _ _) (R_sets (W := W3) (by rw [hs3]; exact hRo) (by omega) (by omega))
      · iterate 8 refine below_set ?_ (by omega)
        exact hBw
end Go.Proofs.YtkdeleafgailhaaGreatDoor
end
section
set_option linter.unusedVariables false
set_option linter.unusedSimpArgs false
namespace Go.Proofs.YtkdeleafgailhaaGreatDoor
open Go Go.RowKit Go.Proofs.YtkdeleafgailhaaGreatDoorW.PrintWords

theorem rnorm_step (x : JV) (hl : ∀ y ∈ x.list, RNormOK y) (hf : ∀ f ∈ x.fields, RNormOK f.value) : RNormOK x := by
  intro w cs hK hwt hin
  obtain ⟨A, c, B, d, rfl, hlc, hCl, hfc, hCf⟩ := kV_open hK
  clear hK
  obtain ⟨k, t, ng, ds, ex, tx, l, f⟩ := x
  simp only [JV.list, JV.fields] at *
  rw [JV.wt] at hwt
  rw [JV.ints] at hin
  obtain ⟨hik, hie, hil, hif⟩ := hin
  unfold JV.cells
  simp only [JV.kind, JV.truth, JV.neg, JV.digits, JV.exp, JV.text]
  rw [JV.norm]
  by_cases h1 : k = 1
  · rw [if_pos h1]; subst h1
    exact rnorm_one w t ng ds tx ex A B _ c _ d
  rw [if_neg h1]
  by_cases h2 : k = 2
  · rw [if_pos h2]; subst h2
    exact rnorm_num w t ng ds tx ex A B _ c _ d (by omega) hie.1 hie.2
  rw [if_neg h2]
  by_cases h3 : k = 3
  · rw [if_pos h3]; subst h3
    exact rnorm_text w t ng ds tx ex A B _ c _ d (by omega)
  rw [if_neg h3]
  by_cases h4 : k = 4
  · rw [if_pos h4]; subst h4
    exact rnorm_list w t ng ds tx ex A B _ c _ d l hCl hlc hl (by omega) hil
  rw [if_neg h4]
  by_cases h5 : k = 5
  · rw [if_pos h5]; subst h5
    exact rnorm_fields w t ng ds tx ex A B _ c _ d f hCf hfc hf (by omega) hif
  rw [if_neg h5]
  exact rnorm_rest w k t ng ds tx ex A B _ c _ d h1 h2 h3 h4 h5
theorem rnorm_all : ∀ (n : Nat) (x : JV), x.wt ≤ n → RNormOK x
  | 0, .mk k t ng ds ex tx l f, h => by rw [JV.wt] at h; omega
  | n + 1, .mk k t ng ds ex tx l f, h => by
    rw [JV.wt] at h
    exact rnorm_step _ (fun y hy => rnorm_all n y (by have := wt_memL hy; simp only [JV.list] at this; omega)) (fun g hg => rnorm_all n _ (by have := wt_memF hg; simp only [JV.fields] at this; omega))
/-- **voyageref02.Norm.** -/
theorem rnorm_any (x : JV) : RNormOK x := rnorm_all _ x (Nat.le_refl _)
end Go.Proofs.YtkdeleafgailhaaGreatDoor
end
section
set_option linter.unusedVariables false
set_option linter.unusedSimpArgs false
namespace Go.Proofs.YtkdeleafgailhaaGreatDoor
open Go Go.RowKit Go.Proofs.YtkdeleafgailhaaGreatDoorW.PrintWords

end Go.Proofs.YtkdeleafgailhaaGreatDoor
end
section
set_option linter.unusedVariables false
set_option linter.unusedSimpArgs false
namespace Go.Proofs.YtkdeleafgailhaaGreatDoor
open Go Go.RowKit

/-- A reading ends, or fails, within the text. -/
def PR.inn {α : Type} (n : Nat) : PR α → Prop
  | .ok _ j => j ≤ n
  | .no k _ => k ≤ n
theorem textF_inn (s : ByteArray) : ∀ (n j : Nat) (acc : List UInt8), j ≤ s.size → (textF s n j acc).inn s.size
  | 0, j, acc, h => h
  | n + 1, j, acc, h => by
    rw [textF]
    split
    · rename_i h1
      have := byteAt_in (s := s) (i := j) (by omega)
      show j + 1 ≤ s.size
      omega
    · split
      · exact h
      · exact textF_inn s n _ _ (letAt_le s j h).1
theorem textAt_inn (s : ByteArray) (i : Nat) (h : i < s.size) : (textAt s i).inn s.size := textF_inn s _ _ _ (by omega)
theorem textVal_inn (s : ByteArray) (i : Nat) (h : i < s.size) : (textVal s i).inn s.size := by
  unfold textVal
  have h1 := textAt_inn s i h
  cases ht : textAt s i with
  | no k e => rw [ht] at h1; exact h1
  | ok l k => rw [ht] at h1; exact h1
theorem pre_size {s : ByteArray} {i : Nat} {p : List UInt8} (hi : i ≤ s.size) (h : preAt s i p = true) : i + p.length ≤ s.size := by
  unfold preAt Lib.hasPrefix at h
  have h1 := (List.isPrefixOf_iff_prefix.1 h).length_le
  have h2 : (s.extract i s.size).data.toList.length = (s.extract i s.size).size := Array.length_toList
  rw [h2, ByteArray.size_extract] at h1
  omega
theorem litAt_inn (s : ByteArray) (i : Nat) (h : i ≤ s.size) : (litAt s i).inn s.size := by
  unfold litAt
  split
  · rename_i h1; exact pre_size h h1
  · split
    · rename_i h1; exact pre_size h h1
    · split
      · rename_i h1; exact pre_size h h1
      · exact h
theorem numberAt_inn (s : ByteArray) (i : Nat) (h : i ≤ s.size) : (numberAt s i).inn s.size := by
  unfold numberAt
  split
  · exact numTo_size s _ i h
  · exact h
theorem sevF_inn {σ : Type} (s : ByteArray) (c : Nat) (hc : 0 < c) (each : Nat → σ → PR σ) (hw : ∀ i x, i ≤ s.size → (each i x).inn s.size) : ∀ (n i : Nat) (x : σ), i ≤ s.size → (sevF s c each n i x).inn s.size
  | 0, i, x, h => h
  | n + 1, i, x, h => by
    rw [sevF]
    have h1 := hw i x h
    cases he : each i x with
    | no k e => rw [he] at h1; exact h1
    | ok z k =>
      rw [he] at h1
      have h2 : k ≤ s.size := h1
      have h3 := gapTo_size s k h2
      simp only
      split
      · rename_i hb
        have := byteAt_in (s := s) (i := gapTo s k) (by omega)
        exact sevF_inn s c hc each hw n _ _ (gapTo_size s _ (by omega))
      · split
        · rename_i hb
          have := byteAt_in (s := s) (i := gapTo s k) (by omega)
          show gapTo s k + 1 ≤ s.size
          omega
        · exact h3
theorem sevAt_inn {σ : Type} (s : ByteArray) (c : Nat) (hc : 0 < c) (each : Nat → σ → PR σ) (hw : ∀ i x, i ≤ s.size → (each i x).inn s.size) (i : Nat) (x : σ) (h : i < s.size) : (sevAt s c each i x).inn s.size := by
  unfold sevAt
  have h3 := gapTo_size s (i + 1) (by omega)
  split
  · rename_i hb
    have := byteAt_in (s := s) (i := gapTo s (i + 1)) (by omega)
    show gapTo s (i + 1) + 1 ≤ s.size
    omega
  · exact sevF_inn s c hc each hw _ _ _ h3
theorem itemL_inn {s : ByteArray} {val : Nat → PR JV} (hv : ∀ i, i ≤ s.size → (val i).inn s.size) (i : Nat) (xs : List JV) (h : i ≤ s.size) : (itemL val i xs).inn s.size := by
  unfold itemL
  have h1 := hv i h
  cases hx : val i with
  | no k e => rw [hx] at h1; exact h1
  | ok x k => rw [hx] at h1; exact h1
theorem fieldAt_inn {s : ByteArray} {val : Nat → PR JV} (hv : ∀ i, i ≤ s.size → (val i).inn s.size) (i : Nat) (fs : List JF) (h : i ≤ s.size) : (fieldAt s val i fs).inn s.size := by
  unfold fieldAt
  split
  · rename_i hb
    have hi := byteAt_in (s := s) (i := i) (by omega)
    have h1 := textAt_inn s i hi
    cases ht : textAt s i with
    | no k e => rw [ht] at h1; exact h1
    | ok l k =>
      rw [ht] at h1
      have hk : k ≤ s.size := h1
      have h2 := gapTo_size s k hk
      simp only
      split
      · exact h
      · split
        · rename_i hb2
          have := byteAt_in (s := s) (i := gapTo s k) (by omega)
          have h3 := hv (gapTo s (gapTo s k + 1)) (gapTo_size s _ (by omega))
          cases hx : val (gapTo s (gapTo s k + 1)) with
          | no k2 e => rw [hx] at h3; exact h3
          | ok x k2 => rw [hx] at h3; exact h3
        · exact h2
  · exact h
theorem valWith_inn {s : ByteArray} {lst obj : PR JV} {i : Nat} (h : i ≤ s.size) (hl : i < s.size → lst.inn s.size) (ho : i < s.size → obj.inn s.size) : (valWith s lst obj i).inn s.size := by
  unfold valWith
  split
  · exact hl (byteAt_in (by omega))
  · split
    · exact ho (byteAt_in (by omega))
    · split
      · exact textVal_inn s i (byteAt_in (by omega))
      · split
        · exact numberAt_inn s i h
        · exact litAt_inn s i h
theorem listOf_inn {n : Nat} {p : PR (List JV)} (h : p.inn n) : (listOf p).inn n := by cases p <;> exact h
theorem objOf_inn {n : Nat} {p : PR (List JF)} (h : p.inn n) : (objOf p).inn n := by cases p <;> exact h
theorem valF_inn (s : ByteArray) : ∀ (D i : Nat), i ≤ s.size → (valF s D i).inn s.size
  | 0, i, h => by rw [valF]; exact valWith_inn h (fun _ => h) (fun _ => h)
  | D + 1, i, h => by
    rw [valF]
    exact valWith_inn h (fun hi => listOf_inn (sevAt_inn s 93 (by omega) _ (fun i x hi => itemL_inn (valF_inn s D) i x hi) i [] hi)) (fun hi => objOf_inn (sevAt_inn s 125 (by omega) _ (fun i x hi => fieldAt_inn (valF_inn s D) i x hi) i [] hi))
/-- A fault of Parse stands within the text. -/
theorem parse_at_in {s : ByteArray} {k : Nat} {e : PE} (h : parseTo s = .no k e) : k ≤ s.size := by
  unfold parseTo at h
  have h1 := valF_inn s 64 (gapTo s 0) (gapTo_size s 0 (Nat.zero_le _))
  cases hv : valF s 64 (gapTo s 0) with
  | no k2 e2 => rw [hv] at h h1; injection h with h2 h3; subst h2; exact h1
  | ok y j =>
    rw [hv] at h h1
    simp only at h
    split at h
    · injection h with h2 h3; subst h2; exact gapTo_size s j h1
    · cases h
end Go.Proofs.YtkdeleafgailhaaGreatDoor
end
section
set_option linter.unusedVariables false
set_option linter.unusedSimpArgs false
namespace Go.Proofs.YtkdeleafgailhaaGreatDoor
open Go Go.RowKit Go.Proofs.YtkdeleafgailhaaGreatDoorW.PrintWords

/-- What Parse gives is light. -/
theorem parse_wt {s : ByteArray} (hs : s.size ≤ 1048576) {x : JV} {j : Nat} (h : parseTo s = .ok x j) : x.wt ≤ 33554500 ∧ x.ints := by
  unfold parseTo at h
  cases hv : valF s 64 (gapTo s 0) with
  | no k e => rw [hv] at h; cases h
  | ok y k =>
    rw [hv] at h
    simp only at h
    split at h
    · cases h
    · injection h with h1 h2
      subst h1
      have h3 := (valF_wt s hs 64 _ _ _ hv).1
      have h4 := valF_inn s 64 (gapTo s 0) (gapTo_size s 0 (Nat.zero_le _))
      rw [hv] at h4
      have h5 : k ≤ s.size := h4
      have h6 := norm_wt y
      exact ⟨by omega, norm_ints y⟩
theorem like_same (x : JV) (w : World) (cs cs' : List Value) (hK : kV.K w x cs) (hK' : kV.K w x cs') : Calls Tryz.prog 17 #[.agg cs.toArray, .agg cs'.toArray] w fun e w' => e = .returned (.bool true) ∧ Below w.heap.size w w' := by
  refine (like_any x x w cs cs' hK hK').mono ?_
  rintro e w' ⟨b, rfl, h, hb⟩
  rw [h.2 rfl]
  exact ⟨rfl, hb⟩
/-- A fault of one of the package's errors. -/
theorem parse_fault (E : ErrV) (s : ByteArray) (w : World) (hP : PEnv E w) (h : 1048576 < s.size ∨ ∃ k e, parseTo s = .no k e) : Calls Tryz.prog 27 #[.string s] w fun e w' => ∃ (k kk : Nat) (a : Addr), e = .returned (.tuple #[.agg #[.int .i64 0, .bool false, .bool false, .string ⟨#[]⟩, .int .i64 0, .string ⟨#[]⟩, .slice none 0 0, .slice none 0 0], .iface 94 (.pointer (some ⟨kk, 0, none⟩))]) ∧ IsFault (.iface 94 (.pointer (some ⟨kk, 0, none⟩))) k (ev a) w' ∧ a ∈ [E.due, E.long, E.deep, E.twice, E.text, E.number, E.exponent] ∧ k ≤ s.size ∧ (1048576 < s.size → k = 0 ∧ a = E.long) ∧ Below w.heap.size w w' := by
  by_cases hs : s.size ≤ 1048576
  · obtain ⟨k, pe, hk⟩ := h.resolve_left (by omega)
    have h2 := parse_any E s w hs hP
    rw [hk] at h2
    refine h2.mono ?_
    rintro e w' ⟨v, rfl, hF, hb⟩
    have hF2 := hF
    obtain ⟨kk, rfl, _⟩ := hF2
    refine ⟨k, kk, E.at_ pe, rfl, hF, ?_, parse_at_in hk, fun h9 => absurd h9 (by omega), hb⟩
    cases pe <;> simp [ErrV.at_]
  · refine (parse_long E s w (by omega) hP).mono ?_
    rintro e w' ⟨v, rfl, hF, hb⟩
    have hF2 := hF
    obtain ⟨kk, rfl, _⟩ := hF2
    exact ⟨0, kk, E.long, rfl, hF, by simp, Nat.zero_le _, fun _ => ⟨rfl, rfl⟩, hb⟩
end Go.Proofs.YtkdeleafgailhaaGreatDoor
end
