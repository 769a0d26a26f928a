/- voyageref02.Norm at objects. voyageref02.Norm is JV.norm; voyageref02.Same. There and back, plainly: the one form of values. There and back, plainly: **a value in its one form, told, is read as it**; so two that are told alike are one. voyageref02.Depth tells how deep a value's one form is. How deep what is read may be: plain. The one form is no deeper; reading is one whatever the depth allowed: plain. A reading stays the same where more brackets are allowed: plain. What is told of a value in its one form: read as it, or at fault where it is too deep: plain. Where a fault is: within the text: plain. What Parse gives is light; Parse, Norm, Print, Like of values in their one form. -/
import Derived.Test.YtkdeleafgailhaaGreatDoorN25
import Derived.Test.YtkdeleafgailhaaGreatDoorN23
import Derived.Test.YtkdeleafgailhaaGreatDoorN24
import Derived.Test.YtkdeleafgailhaaGreatDoorN19
import Derived.Test.YtkdeleafgailhaaGreatDoorN10
import Derived.Test.YtkdeleafgailhaaGreatDoorN20
section
set_option linter.unusedVariables false
set_option linter.unusedSimpArgs false
namespace Go.Proofs.YtkdeleafgailhaaGreatDoor
open Go Go.RowKit Go.Proofs.YtkdeleafgailhaaGreatDoorW.PrintWords

theorem nine_far {w : World} {b k : Nat} (h : k ≠ b) (u0 u1 u2 u3 u4 u5 u6 u7 u8 : Value) : (((((((((w.setCell ⟨b, 0, none⟩ u0).setCell ⟨b, 1, none⟩ u1).setCell ⟨b, 2, none⟩ u2).setCell ⟨b, 3, none⟩ u3).setCell ⟨b, 4, none⟩ u4).setCell ⟨b, 5, none⟩ u5).setCell ⟨b, 6, none⟩ u6).setCell ⟨b, 7, none⟩ u7).setCell ⟨b, 8, none⟩ u8).heap[k]? = w.heap[k]? :=
  setCells_far [u0, u1, u2, u3, u4, u5, u6, u7, u8] 0 k h
theorem at_world {Q : Exit → Act → World → Prop} {e : Exit} {a : Act} {F : World} (P : World → Prop) (h : P F) (k : P F → Q e a F) : Q e a F := k h
theorem below_nine {B : Nat} {a w : World} {b : Nat} (h : Below B a w) (hb : B ≤ b) (u0 u1 u2 u3 u4 u5 u6 u7 u8 : Value) : Below B a (((((((((w.setCell ⟨b, 0, none⟩ u0).setCell ⟨b, 1, none⟩ u1).setCell ⟨b, 2, none⟩ u2).setCell ⟨b, 3, none⟩ u3).setCell ⟨b, 4, none⟩ u4).setCell ⟨b, 5, none⟩ u5).setCell ⟨b, 6, none⟩ u6).setCell ⟨b, 7, none⟩ u7).setCell ⟨b, 8, none⟩ u8) :=
  set_far (set_far (set_far (set_far (set_far (set_far (set_far (set_far (set_far h hb u0) hb u1) hb u2) hb u3) hb u4) hb u5) hb u6) hb u7) hb u8
set_option maxRecDepth 100000 in
set_option maxHeartbeats 8000000 in
theorem rnorm_fields (w : World) (t ng : Bool) (ds tx : ByteArray) (ex : Int) (A B : Option Addr) (nl c nf d : Nat) (fs : List JF) (hC : kF.C w B nf fs) (hnd : nf ≤ d) (hok : ∀ f ∈ fs, RNormOK f.value) (hwt : JV.wtF fs ≤ 4294967296) (hin : JV.intsF fs) :
    Calls Tryz.prog 18 #[.agg #[.int .i64 5, .bool t, .bool ng, .string ds, .int .i64 ex, .string tx, .slice A nl c, .slice B nf d]] w fun e w' => ∃ cs', e = .returned (.agg cs'.toArray) ∧ kV.M w' w.heap.size (fun _ => True) (.mk 5 false false ⟨#[]⟩ 0 ⟨#[]⟩ [] (JV.normF fs [])) cs' ∧ Below w.heap.size w w' := by
  have hB0 := ((Below.refl _ w).alloc (Nat.le_refl _) (.cells #[.int .i64 5, .bool t, .bool ng, .string ds, .int .i64 ex, .string tx, .slice A nl c, .slice B nf d] 27)).alloc (by simp) (.cells #[.int .i64 0, .bool false, .bool false, .string ⟨#[]⟩, .int .i64 0, .string ⟨#[]⟩, .slice none 0 0, .slice none 0 0] 27)
  have hlen := hC.1
  have hll := wtF_len fs
  have hnl : nf ≤ 4294967296 := by omega
  obtain ⟨e0, e1⟩ := boxes' w (.cells #[.int .i64 5, .bool t, .bool ng, .string ds, .int .i64 ex, .string tx, .slice A nl c, .slice B nf d] 27) (.cells #[.int .i64 0, .bool false, .bool false, .string ⟨#[]⟩, .int .i64 0, .string ⟨#[]⟩, .slice none 0 0, .slice none 0 0] 27)
  go_enter Tryz.func18, Tryz.ntmps18
  go_wp2_with fail
  obtain ⟨W3, hW3⟩ : ∃ W3, (((w.alloc (.cells #[.int .i64 5, .bool t, .bool ng, .string ds, .int .i64 ex, .string tx, .slice A nl c, .slice B nf d] 27)).alloc (.cells #[.int .i64 0, .bool false, .bool false, .string ⟨#[]⟩, .int .i64 0, .string ⟨#[]⟩, .slice none 0 0, .slice none 0 0] 27)).alloc (.cells #[.int .i64 5, .bool false, .bool false, .string ⟨#[]⟩, .int .i64 0, .string ⟨#[]⟩, .slice none 0 0, .slice none 0 0] 27)) = W3 := ⟨_, rfl⟩
  have f2 := heap_alloc_new ((w.alloc (.cells #[.int .i64 5, .bool t, .bool ng, .string ds, .int .i64 ex, .string tx, .slice A nl c, .slice B nf d] 27)).alloc (.cells #[.int .i64 0, .bool false, .bool false, .string ⟨#[]⟩, .int .i64 0, .string ⟨#[]⟩, .slice none 0 0, .slice none 0 0] 27)) (.cells #[.int .i64 5, .bool false, .bool false, .string ⟨#[]⟩, .int .i64 0, .string ⟨#[]⟩, .slice none 0 0, .slice none 0 0] 27)
  have f0 := (heap_alloc_old _ (.cells #[.int .i64 5, .bool false, .bool false, .string ⟨#[]⟩, .int .i64 0, .string ⟨#[]⟩, .slice none 0 0, .slice none 0 0] 27) (blk_lt e0)).trans e0
  have f1 := (heap_alloc_old _ (.cells #[.int .i64 5, .bool false, .bool false, .string ⟨#[]⟩, .int .i64 0, .string ⟨#[]⟩, .slice none 0 0, .slice none 0 0] 27) (blk_lt e1)).trans e1
  have hB3 := hB0.alloc (by simp; omega) (.cells #[.int .i64 5, .bool false, .bool false, .string ⟨#[]⟩, .int .i64 0, .string ⟨#[]⟩, .slice none 0 0, .slice none 0 0] 27)
  have hs2 : ((w.alloc (.cells #[.int .i64 5, .bool t, .bool ng, .string ds, .int .i64 ex, .string tx, .slice A nl c, .slice B nf d] 27)).alloc (.cells #[.int .i64 0, .bool false, .bool false, .string ⟨#[]⟩, .int .i64 0, .string ⟨#[]⟩, .slice none 0 0, .slice none 0 0] 27)).heap.size = w.heap.size + 1 + 1 := by simp
  have hs3 : W3.heap.size = w.heap.size + 3 := by rw [← hW3]; simp
  rw [hs2] at f2
  rw [hW3] at f0 f1 f2 hB3 ⊢
  clear hW3 hs2 e0 e1 hB0
  replace hlen := Aside0.mk hlen
  replace f0 := Aside0.mk f0
  replace f1 := Aside0.mk f1
  replace f2 := Aside0.mk f2
  replace hB3 := Aside0.mk hB3
  go_loopw [6] (fun i wr => ∃ (j : Nat) (v : Value), i = .int .i64 j ∧ j ≤ nf ∧ wr.heap[w.heap.size + 1 + 1]? = some (.cells #[.int .i64 5, .bool false, .bool false, .string ⟨#[]⟩, .int .i64 0, .string ⟨#[]⟩, .slice none 0 0, v] 27 (0, 0)) ∧ kF.R 69 wr (w.heap.size + 3) (fun _ => True) v (JV.normF (fs.take j) []) ∧ Below (w.heap.size + 2) W3 wr) (fun i _ => nf - (intOf i).toNat)
  case atStart => exact ⟨0, _, rfl, Nat.zero_le _, f2.out, R_nilF _ _ _, Below.refl _ _⟩
  case round =>
    obtain ⟨j, v, rfl, hj, hbx, hR, hB⟩ := hrel
    obtain ⟨VA, vc, hv⟩ := Kd.R_slice hR
    have hrise := rising_normF (fs.take j) [] rising_nil
    have hol := length_normF_le (fs.take j) []
    rw [List.length_take, hlen.out] at hol
    have hsnoc : ∀ x, fs[j]? = some x → JV.normF (fs.take (j + 1)) [] = insF (JV.normF (fs.take j) []) (clean x.name) x.value.norm := by
      rintro ⟨nm, v⟩ hx
      rw [List.take_add_one, hx, Option.toList_some, normF_app, JV.normF, JV.normF]
      rfl
    replace hsnoc := Aside0.mk hsnoc
    obtain ⟨m, hm⟩ : ∃ m, (JV.normF (fs.take j) []).length = m := ⟨_, rfl⟩
    rw [hm] at hv hol
    subst hv
    have hol2 : m ≤ 4294967296 := by have : min j nf ≤ j := Nat.min_le_left _ _; simp at hol; omega
    have hbf := (hB.block w.heap.size (by omega)).trans f0.out
    have hcf := cellAll hbf
    have hcx := cellAll hbx
    have hfx := frozenAll hbx
    have hBw : Below w.heap.size w wr := hB3.out.trans (hB.mono (by omega))
    clear hol
    by_cases hlt : j < nf
    · obtain ⟨ad, x, A6, c6, A7, c7, rfl, hx, hcs, l6, g6, l7, g7⟩ := at_F hC j hlt
      have hK := kV_mkK l6 g6 l7 g7
      unfold JV.cells at hcs hK
      obtain ⟨q0, q1, q2, q3, q4, q5, q6, q7, q8, _⟩ := hcs
      have hxm : x ∈ fs := List.mem_of_getElem? hx
      have hnx := hok x hxm
      have hwx := wt_memF hxm
      have hix := ints_memF hxm hin
      have cN := fun (W : World) (hb : Below w.heap.size w W) => hnx W _ (kV.K_below hb hK) (by omega) hix
      have cC := fun (W : World) => rClean_any x.name W (by omega)
      have hsn := hsnoc.out x hx
      generalize clean x.name = nm at cC hsn
      have hSof : ∀ W, Below (w.heap.size + 2) wr W → W.cell? ⟨w.heap.size, 7, none⟩ = some (.slice (some ad) nf d) ∧ W.cell? (ad.add (j * 9)) = some (.string x.name) ∧ W.cell? ⟨(ad.add (j * 9)).block, (ad.add (j * 9)).off + (0 + 1), none⟩ = some (.int .i64 x.value.kind) ∧ W.cell? ⟨(ad.add (j * 9)).block, (ad.add (j * 9)).off + (1 + 1), none⟩ = some (.bool x.value.truth) ∧ W.cell? ⟨(ad.add (j * 9)).block, (ad.add (j * 9)).off + (2 + 1), none⟩ = some (.bool x.value.neg) ∧ W.cell? ⟨(ad.add (j * 9)).block, (ad.add (j * 9)).off + (3 + 1), none⟩ = some (.string x.value.digits) ∧ W.cell? ⟨(ad.add (j * 9)).block, (ad.add (j * 9)).off + (4 + 1), none⟩ = some (.int .i64 x.value.exp) ∧ W.cell? ⟨(ad.add (j * 9)).block, (ad.add (j * 9)).off + (5 + 1), none⟩ = some (.string x.value.text) ∧ W.cell? ⟨(ad.add (j * 9)).block, (ad.add (j * 9)).off + (6 + 1), none⟩ = some (.slice A6 x.value.list.length c6) ∧ W.cell? ⟨(ad.add (j * 9)).block, (ad.add (j * 9)).off + (7 + 1), none⟩ = some (.slice A7 x.value.fields.length c7) := fun W hb => by
        have hbw := hBw.trans (hb.mono (by omega))
        refine ⟨cellAll ((hb.block w.heap.size (by omega)).trans hbf) 7, ?_, ?_, ?_, ?_, ?_, ?_, ?_, ?_, ?_⟩ <;> first | exact pw_cell_below hbw q0 | exact pw_cell_below hbw q1 | exact pw_cell_below hbw q2 | exact pw_cell_below hbw q3 | exact pw_cell_below hbw q4 | exact pw_cell_below hbw q5 | exact pw_cell_below hbw q6 | exact pw_cell_below hbw q7 | exact pw_cell_below hbw q8
      have hS0 := hSof wr (Below.refl _ _)
      have hS1 := hSof wr.drew (Below.refl _ _).drew
      have hbc : Below wr.heap.size wr wr.drew := (Below.refl _ _).drew
      have hws : w.heap.size + 3 ≤ wr.heap.size := by have := hB.size; omega
      have hSa2 := fun o => hSof (wr.alloc o).drew ((((Below.refl wr.heap.size wr).mono (by omega)).alloc (by omega) o).drew)
      have hSa1 := fun o => hSof (wr.drew.alloc o) ((hbc.mono (by omega)).alloc (by show _ ≤ wr.heap.size; omega) o)
      have hj1 : (j : Int) < (nf : Int) := by omega
      have hj0 : (0 : Int) ≤ (j : Int) := by omega
      replace hR := Aside0.mk hR
      replace hx := Aside0.mk hx
      replace hm := Aside0.mk hm
      replace hbx := Aside0.mk hbx
      replace hbf := Aside0.mk hbf
      replace hrise := Aside0.mk hrise
      clear hnx hK hxm q0 q1 q2 q3 q4 q5 q6 q7 q8 hsnoc
      replace hsn := Aside0.mk hsn
      generalize JV.normF (fs.take j) [] = out at *
      go_wp2_with fail
      go_region_held3 (fun W => W.cell? ⟨w.heap.size, 7, none⟩ = some (.slice (some ad) nf d) ∧ W.cell? (ad.add (j * 9)) = some (.string x.name) ∧ W.cell? ⟨(ad.add (j * 9)).block, (ad.add (j * 9)).off + (0 + 1), none⟩ = some (.int .i64 x.value.kind) ∧ W.cell? ⟨(ad.add (j * 9)).block, (ad.add (j * 9)).off + (1 + 1), none⟩ = some (.bool x.value.truth) ∧ W.cell? ⟨(ad.add (j * 9)).block, (ad.add (j * 9)).off + (2 + 1), none⟩ = some (.bool x.value.neg) ∧ W.cell? ⟨(ad.add (j * 9)).block, (ad.add (j * 9)).off + (3 + 1), none⟩ = some (.string x.value.digits) ∧ W.cell? ⟨(ad.add (j * 9)).block, (ad.add (j * 9)).off + (4 + 1), none⟩ = some (.int .i64 x.value.exp) ∧ W.cell? ⟨(ad.add (j * 9)).block, (ad.add (j * 9)).off + (5 + 1), none⟩ = some (.string x.value.text) ∧ W.cell? ⟨(ad.add (j * 9)).block, (ad.add (j * 9)).off + (6 + 1), none⟩ = some (.slice A6 x.value.list.length c6) ∧ W.cell? ⟨(ad.add (j * 9)).block, (ad.add (j * 9)).off + (7 + 1), none⟩ = some (.slice A7 x.value.fields.length c7))
        (first | (with_reducible exact hS0) | (with_reducible exact hS1) | (with_reducible exact hSwC) | (with_reducible exact hSwN) | (with_reducible exact hSa1 _) | (with_reducible exact hSa2 _) | (with_reducible exact hSaC _) | (with_reducible exact hSaN _) | (refine hSof _ ?_; with_reducible exact below_nine hbc8 hbc9 _ _ _ _ _ _ _ _ _) | (refine hSof _ ?_; with_reducible exact below_nine hbc8 hbc8z _ _ _ _ _ _ _ _ _))
        (first
          | (go_at_call 37; refine (cC _).mono ?_; rintro e wC ⟨rfl, hbC⟩; (first | (have hb7 := (hbC.block _ (blk_lt hb7.out)).trans hb7.out; have hc7 := cellAll hb7; have hf7 := frozenAll hb7; replace hb7 := Aside0.mk hb7) | (have hb7 := (hbC.block _ (by simp)).trans (heap_alloc_new _ _); (try rw [show wr.drew.heap.size = wr.heap.size from rfl] at hb7); have hc7 := cellAll hb7; have hf7 := frozenAll hb7; replace hb7 := Aside0.mk hb7) | skip); (try (have hb7l := blk_lt hb7.out)); (try (have hMn := Aside0.mk (a := kV.M wC wr.heap.size _ x.value.norm [.int .i64 x.value.norm.kind, .bool x.value.norm.truth, .bool x.value.norm.neg, .string x.value.norm.digits, .int .i64 x.value.norm.exp, .string x.value.norm.text, .slice Al x.value.norm.list.length cl, .slice Af x.value.norm.fields.length cf]) (by first | exact Kd.M_below hMn.out hbC | exact Kd.M_below (Kd.M_below hMn.out ((Below.refl _ _).alloc (Nat.le_refl _) _)) hbC))); have hbc : Below wr.heap.size wr wC := (by first | exact hbc.trans (hbC.mono hbc.size) | exact (hbc.alloc hbc.size _).trans (hbC.mono (hbc.alloc hbc.size _).size)); have hzwC := hbc.size; have hSwC := hSof wC (hbc.mono (by omega)); have hSaC := fun o => hSof (wC.alloc o) ((hbc.mono (by omega)).alloc (by omega) o))
          | (go_at_call 18; refine (cN _ ?hb).mono ?_; (case hb => (first | exact hBw.trans (hbc.mono (by omega)) | exact hBw.trans ((hbc.alloc hbc.size _).mono (by omega)))); rintro e wN ⟨cs', rfl, hM, hbN⟩; obtain ⟨vl, vf, rfl, hRl, hRf⟩ := kV_openM hM; unfold JV.cells at hM; obtain ⟨Al, cl, rfl⟩ := Kd.R_slice hRl; obtain ⟨Af, cf, rfl⟩ := Kd.R_slice hRf; unfold JV.cells; clear hRl hRf; (first | (have hb7 := (hbN.block _ (blk_lt hb7.out)).trans hb7.out; have hc7 := cellAll hb7; have hf7 := frozenAll hb7; replace hb7 := Aside0.mk hb7) | (have hb7 := (hbN.block _ (by simp)).trans (heap_alloc_new _ _); (try rw [show wr.drew.heap.size = wr.heap.size from rfl] at hb7); have hc7 := cellAll hb7; have hf7 := frozenAll hb7; replace hb7 := Aside0.mk hb7) | skip); have hMn := kV.M_lower (base' := wr.heap.size) (by have := hbc.size; first | omega | (simp; omega)) (kV.M_mono (fun k hk => hk.2) (kV.M_bound hM)); replace hMn := Aside0.mk hMn; have hbc : Below wr.heap.size wr wN := (by first | exact hbc.trans (hbN.mono hbc.size) | exact (hbc.alloc hbc.size _).trans (hbN.mono (hbc.alloc hbc.size _).size)); have hzwN := hbc.size; have hSwN := hSof wN (hbc.mono (by omega)); have hSaN := fun o => hSof (wN.alloc o) ((hbc.mono (by omega)).alloc (by omega) o); have hbc8 : Below (w.heap.size + 2) wr wN := hbc.mono (by omega); have hbc9 : w.heap.size + 2 ≤ wC.heap.size := (by omega); have hbc8z : w.heap.size + 2 ≤ wr.heap.size := (by omega); clear hM))
      all_goals (refine at_world (P := fun F => Below wr.heap.size wr F ∧ kV.M F wr.heap.size (fun _ => True) x.value.norm [.int .i64 x.value.norm.kind, .bool x.value.norm.truth, .bool x.value.norm.neg, .string x.value.norm.digits, .int .i64 x.value.norm.exp, .string x.value.norm.text, .slice Al x.value.norm.list.length cl, .slice Af x.value.norm.fields.length cf]) ?_ (fun hF => ?_))
      · exact ⟨hbc.alloc hzwN _, kV.M_mono (fun _ _ => trivial) (Kd.M_below hMn.out ((Below.refl _ _).alloc (Nat.le_refl _) _))⟩
      · have hbxF := (hF.1.block _ (blk_lt hbx.out)).trans hbx.out
        have hcF := cellAll hbxF
        have hfF := frozenAll hbxF
        have hzF : wr.heap.size ≤ _ := hF.1.size
        have hRF := Kd.R_below hR.out hF.1
        have hMF := kV.M_lower (base' := w.heap.size + 3) hws hF.2
        replace hbxF := Aside0.mk hbxF
        replace hRF := Aside0.mk hRF
        replace hMF := Aside0.mk hMF
        have hF1 := Aside0.mk hF.1
        clear hF
        obtain ⟨m2, hm2⟩ : ∃ m2, (insF out nm x.value.norm).length = m2 := ⟨_, rfl⟩
        replace hm2 := Aside0.mk hm2
        have hmo : out.length ≤ 4294967296 := by rw [hm.out]; exact hol2
        replace hmo := Aside0.mk hmo
        go_wp2_with (go_at_call 39; refine (put01_any (w.heap.size + 3) (.slice VA m vc) out nm x.value.norm (.slice Al x.value.norm.list.length cl) (.slice Af x.value.norm.fields.length cf) _ hRF.out hMF.out hrise.out (Nat.le_trans hws hzF) hmo.out).mono ?_; rintro e wP ⟨v1, rfl, hR1, hbP⟩; obtain ⟨A1, c1, hv1⟩ := Kd.R_slice hR1; rw [hm2.out] at hv1; subst hv1; have hbxP := (hbP.block _ (blk_lt hbxF.out)).trans hbxF.out; have hcP := cellAll hbxP; have hfP := frozenAll hbxP; replace hbxP := Aside0.mk hbxP; replace hR1 := Aside0.mk hR1; replace hbP := Aside0.mk hbP)
        go_roundw
        case rel =>
          refine ⟨j + 1, .slice A1 m2 c1, by go_num, by omega, blk_set hbxP.out 7 _, ?_, set_far ((hB.trans (hF1.out.mono (by omega))).trans (hbP.out.mono (by omega))) (by omega) _⟩
          rw [hsn.out]
          exact Kd.R_mono (Kd.R_far (p := ⟨w.heap.size + 1 + 1, 7, none⟩) (ok := fun k => w.heap.size + 3 ≤ k) (Kd.R_mono (Kd.R_bound hR1.out) (fun k hk => hk.2.1)) (fun k hk => by show k ≠ w.heap.size + 1 + 1; omega) _) (fun _ _ => trivial)
        case measure => first | (simp [intOf]; done) | (simp [intOf]; omega)
      · exact ⟨below_nine hbc hzwC _ _ _ _ _ _ _ _ _, kV.M_mono (fun _ _ => trivial) (Kd.M_step hMn.out (fun k hk _ => nine_far (by have := hk.1; simp at this; omega) _ _ _ _ _ _ _ _ _))⟩
      · have hbxF := (hF.1.block _ (blk_lt hbx.out)).trans hbx.out
        have hcF := cellAll hbxF
        have hfF := frozenAll hbxF
        have hzF : wr.heap.size ≤ _ := hF.1.size
        have hRF := Kd.R_below hR.out hF.1
        have hMF := kV.M_lower (base' := w.heap.size + 3) hws hF.2
        replace hbxF := Aside0.mk hbxF
        replace hRF := Aside0.mk hRF
        replace hMF := Aside0.mk hMF
        have hF1 := Aside0.mk hF.1
        clear hF
        obtain ⟨m2, hm2⟩ : ∃ m2, (insF out nm x.value.norm).length = m2 := ⟨_, rfl⟩
        replace hm2 := Aside0.mk hm2
        have hmo : out.length ≤ 4294967296 := by rw [hm.out]; exact hol2
        replace hmo := Aside0.mk hmo
        go_wp2_with (go_at_call 39; refine (put01_any (w.heap.size + 3) (.slice VA m vc) out nm x.value.norm (.slice Al x.value.norm.list.length cl) (.slice Af x.value.norm.fields.length cf) _ hRF.out hMF.out hrise.out (Nat.le_trans hws hzF) hmo.out).mono ?_; rintro e wP ⟨v1, rfl, hR1, hbP⟩; obtain ⟨A1, c1, hv1⟩ := Kd.R_slice hR1; rw [hm2.out] at hv1; subst hv1; have hbxP := (hbP.block _ (blk_lt hbxF.out)).trans hbxF.out; have hcP := cellAll hbxP; have hfP := frozenAll hbxP; replace hbxP := Aside0.mk hbxP; replace hR1 := Aside0.mk hR1; replace hbP := Aside0.mk hbP)
        go_roundw
        case rel =>
          refine ⟨j + 1, .slice A1 m2 c1, by go_num, by omega, blk_set hbxP.out 7 _, ?_, set_far ((hB.trans (hF1.out.mono (by omega))).trans (hbP.out.mono (by omega))) (by omega) _⟩
          rw [hsn.out]
          exact Kd.R_mono (Kd.R_far (p := ⟨w.heap.size + 1 + 1, 7, none⟩) (ok := fun k => w.heap.size + 3 ≤ k) (Kd.R_mono (Kd.R_bound hR1.out) (fun k hk => hk.2.1)) (fun k hk => by show k ≠ w.heap.size + 1 + 1; omega) _) (fun _ _ => trivial)
        case measure => first | (simp [intOf]; done) | (simp [intOf]; omega)
      · exact ⟨below_nine hbc (Nat.le_refl _) _ _ _ _ _ _ _ _ _, kV.M_mono (fun _ _ => trivial) (Kd.M_step hMn.out (fun k hk _ => nine_far (by have := hk.1; omega) _ _ _ _ _ _ _ _ _))⟩
      · have hbxF := (hF.1.block _ (blk_lt hbx.out)).trans hbx.out
        have hcF := cellAll hbxF
        have hfF := frozenAll hbxF
        have hzF : wr.heap.size ≤ _ := hF.1.size
        have hRF := Kd.R_below hR.out hF.1
        have hMF := kV.M_lower (base' := w.heap.size + 3) hws hF.2
        replace hbxF := Aside0.mk hbxF
        replace hRF := Aside0.mk hRF
        replace hMF := Aside0.mk hMF
        have hF1 := Aside0.mk hF.1
        clear hF
        obtain ⟨m2, hm2⟩ : ∃ m2, (insF out nm x.value.norm).length = m2 := ⟨_, rfl⟩
        replace hm2 := Aside0.mk hm2
        have hmo : out.length ≤ 4294967296 := by rw [hm.out]; exact hol2
        replace hmo := Aside0.mk hmo
        go_wp2_with (go_at_call 39; refine (put01_any (w.heap.size + 3) (.slice VA m vc) out nm x.value.norm (.slice Al x.value.norm.list.length cl) (.slice Af x.value.norm.fields.length cf) _ hRF.out hMF.out hrise.out (Nat.le_trans hws hzF) hmo.out).mono ?_; rintro e wP ⟨v1, rfl, hR1, hbP⟩; obtain ⟨A1, c1, hv1⟩ := Kd.R_slice hR1; rw [hm2.out] at hv1; subst hv1; have hbxP := (hbP.block _ (blk_lt hbxF.out)).trans hbxF.out; have hcP := cellAll hbxP; have hfP := frozenAll hbxP; replace hbxP := Aside0.mk hbxP; replace hR1 := Aside0.mk hR1; replace hbP := Aside0.mk hbP)
        go_roundw
        case rel =>
          refine ⟨j + 1, .slice A1 m2 c1, by go_num, by omega, blk_set hbxP.out 7 _, ?_, set_far ((hB.trans (hF1.out.mono (by omega))).trans (hbP.out.mono (by omega))) (by omega) _⟩
          rw [hsn.out]
          exact Kd.R_mono (Kd.R_far (p := ⟨w.heap.size + 1 + 1, 7, none⟩) (ok := fun k => w.heap.size + 3 ≤ k) (Kd.R_mono (Kd.R_bound hR1.out) (fun k hk => hk.2.1)) (fun k hk => by show k ≠ w.heap.size + 1 + 1; omega) _) (fun _ _ => trivial)
        case measure => first | (simp [intOf]; done) | (simp [intOf]; omega)
    · obtain rfl : j = nf := by omega
      have hb1 := (hB.block (w.heap.size + 1) (by omega)).trans f1.out
      have hc1 := cellAll hb1
      have hf1 := frozenAll hb1
      clear hb1 hbf hsnoc
      replace hR := Aside0.mk hR
      replace hbx := Aside0.mk hbx
      have hno : ¬ (j : Int) < (j : Int) := by omega
      go_wp2_with fail
      refine bodyPost_ret (v := .agg #[.int .i64 5, .bool false, .bool false, .string ⟨#[]⟩, .int .i64 0, .string ⟨#[]⟩, .slice none 0 0, .slice VA m vc]) (by simp [results, Tryz.results18, go_sem, hc1]) rfl ⟨[.int .i64 5, .bool false, .bool false, .string ⟨#[]⟩, .int .i64 0, .string ⟨#[]⟩, .slice none 0 0, .slice VA m vc], rfl, ?_, ?_⟩
      · have hfs : fs.take j = fs := by rw [← hlen.out, List.take_length]
        rw [hfs] at hR hm
        have hRo := hR.out
        rw [← hm] at hRo ⊢
        exact kV_mkM (x := .mk 5 false false ⟨#[]⟩ 0 ⟨#[]⟩ [] (JV.normF fs [])) (R_nilV _ _ _) (R_sets (W := W3) (by rw [hs3]; exact hRo) (by omega) (by omega))
      · iterate 8 refine below_set ?_ (by omega)
        exact hBw
end Go.Proofs.YtkdeleafgailhaaGreatDoor
end
section
set_option linter.unusedVariables false
set_option linter.unusedSimpArgs false
namespace Go.Proofs.YtkdeleafgailhaaGreatDoor
open Go Go.RowKit Go.Proofs.YtkdeleafgailhaaGreatDoorW.PrintWords

theorem rnorm_step (x : JV) (hl : ∀ y ∈ x.list, RNormOK y) (hf : ∀ f ∈ x.fields, RNormOK f.value) : RNormOK x := by
  intro w cs hK hwt hin
  obtain ⟨A, c, B, d, rfl, hlc, hCl, hfc, hCf⟩ := kV_open hK
  clear hK
  obtain ⟨k, t, ng, ds, ex, tx, l, f⟩ := x
  simp only [JV.list, JV.fields] at *
  rw [JV.wt] at hwt
  rw [JV.ints] at hin
  obtain ⟨hik, hie, hil, hif⟩ := hin
  unfold JV.cells
  simp only [JV.kind, JV.truth, JV.neg, JV.digits, JV.exp, JV.text]
  rw [JV.norm]
  by_cases h1 : k = 1
  · rw [if_pos h1]; subst h1
    exact rnorm_one w t ng ds tx ex A B _ c _ d
  rw [if_neg h1]
  by_cases h2 : k = 2
  · rw [if_pos h2]; subst h2
    exact rnorm_num w t ng ds tx ex A B _ c _ d (by omega) hie.1 hie.2
  rw [if_neg h2]
  by_cases h3 : k = 3
  · rw [if_pos h3]; subst h3
    exact rnorm_text w t ng ds tx ex A B _ c _ d (by omega)
  rw [if_neg h3]
  by_cases h4 : k = 4
  · rw [if_pos h4]; subst h4
    exact rnorm_list w t ng ds tx ex A B _ c _ d l hCl hlc hl (by omega) hil
  rw [if_neg h4]
  by_cases h5 : k = 5
  · rw [if_pos h5]; subst h5
    exact rnorm_fields w t ng ds tx ex A B _ c _ d f hCf hfc hf (by omega) hif
  rw [if_neg h5]
  exact rnorm_rest w k t ng ds tx ex A B _ c _ d h1 h2 h3 h4 h5
theorem rnorm_all : ∀ (n : Nat) (x : JV), x.wt ≤ n → RNormOK x
  | 0, .mk k t ng ds ex tx l f, h => by rw [JV.wt] at h; omega
  | n + 1, .mk k t ng ds ex tx l f, h => by
    rw [JV.wt] at h
    exact rnorm_step _ (fun y hy => rnorm_all n y (by have := wt_memL hy; simp only [JV.list] at this; omega)) (fun g hg => rnorm_all n _ (by have := wt_memF hg; simp only [JV.fields] at this; omega))
/-- **voyageref02.Norm.** -/
theorem rnorm_any (x : JV) : RNormOK x := rnorm_all _ x (Nat.le_refl _)
end Go.Proofs.YtkdeleafgailhaaGreatDoor
end
section
set_option linter.unusedVariables false
set_option linter.unusedSimpArgs false
namespace Go.Proofs.YtkdeleafgailhaaGreatDoor
open Go Go.RowKit

mutual
/-- A value in its one form. -/
def JV.isN : JV → Prop
  | .mk k t n d e s l f =>
    (k = 0 ∧ t = false ∧ n = false ∧ d = ⟨#[]⟩ ∧ e = 0 ∧ s = ⟨#[]⟩ ∧ l = [] ∧ f = []) ∨
    (k = 1 ∧ n = false ∧ d = ⟨#[]⟩ ∧ e = 0 ∧ s = ⟨#[]⟩ ∧ l = [] ∧ f = []) ∨
    (k = 2 ∧ t = false ∧ NumN n d e ∧ s = ⟨#[]⟩ ∧ l = [] ∧ f = []) ∨
    (k = 3 ∧ t = false ∧ n = false ∧ d = ⟨#[]⟩ ∧ e = 0 ∧ Lib.validD s.data.toList = true ∧ l = [] ∧ f = []) ∨
    (k = 4 ∧ t = false ∧ n = false ∧ d = ⟨#[]⟩ ∧ e = 0 ∧ s = ⟨#[]⟩ ∧ JV.isNL l ∧ f = []) ∨
    (k = 5 ∧ t = false ∧ n = false ∧ d = ⟨#[]⟩ ∧ e = 0 ∧ s = ⟨#[]⟩ ∧ l = [] ∧ JV.isNF f ∧ Rising f)
def JV.isNL : List JV → Prop
  | [] => True
  | x :: xs => x.isN ∧ JV.isNL xs
def JV.isNF : List JF → Prop
  | [] => True
  | .mk nm v :: xs => (Lib.validD nm.data.toList = true ∧ v.isN) ∧ JV.isNF xs
end
theorem isNL_iff : ∀ {l : List JV}, JV.isNL l ↔ ∀ x ∈ l, x.isN
  | [] => by rw [JV.isNL]; simp
  | x :: l => by rw [JV.isNL, isNL_iff (l := l)]; simp
theorem isNF_iff : ∀ {l : List JF}, JV.isNF l ↔ ∀ f ∈ l, Lib.validD f.name.data.toList = true ∧ f.value.isN
  | [] => by rw [JV.isNF]; simp
  | .mk nm v :: l => by rw [JV.isNF, isNF_iff (l := l)]; simp [JF.name, JF.value]
theorem mem_insF {out : List JF} {nm : ByteArray} {v : JV} {f : JF} (h : f ∈ insF out nm v) : f ∈ out ∨ f = .mk nm v := by
  unfold insF at h
  split at h
  · exact .inl h
  · rcases List.mem_append.1 h with h | h
    · exact .inl ((List.takeWhile_sublist _).subset h)
    · rcases List.mem_cons.1 h with h | h
      · exact .inr h
      · exact .inl ((List.dropWhile_sublist _).subset h)
mutual
theorem norm_isN : ∀ (x : JV), x.norm.isN
  | .mk k t n d e s l f => by
    rw [JV.norm]
    split
    · rw [JV.isN]; exact .inr (.inl ⟨rfl, rfl, rfl, rfl, rfl, rfl, rfl⟩)
    · split
      · rw [JV.isN]; exact .inr (.inr (.inl ⟨rfl, rfl, numN_form n d e, rfl, rfl, rfl⟩))
      · split
        · rw [JV.isN]; exact .inr (.inr (.inr (.inl ⟨rfl, rfl, rfl, rfl, rfl, clean_valid s, rfl, rfl⟩)))
        · split
          · rw [JV.isN]; exact .inr (.inr (.inr (.inr (.inl ⟨rfl, rfl, rfl, rfl, rfl, rfl, normL_isN l, rfl⟩))))
          · split
            · rw [JV.isN]; exact .inr (.inr (.inr (.inr (.inr ⟨rfl, rfl, rfl, rfl, rfl, rfl, rfl, normF_isN f [] (by rw [JV.isNF]; trivial), rising_normF f [] rising_nil⟩))))
            · unfold JV.nul; rw [JV.isN]; exact .inl ⟨rfl, rfl, rfl, rfl, rfl, rfl, rfl, rfl⟩
theorem normL_isN : ∀ (l : List JV), JV.isNL (JV.normL l)
  | [] => by rw [JV.normL, JV.isNL]; trivial
  | x :: l => by rw [JV.normL, JV.isNL]; exact ⟨norm_isN x, normL_isN l⟩
theorem normF_isN : ∀ (l : List JF) (out : List JF), JV.isNF out → JV.isNF (JV.normF l out)
  | [], out, h => by rw [JV.normF]; exact h
  | .mk nm v :: l, out, h => by
    rw [JV.normF]
    refine normF_isN l _ (isNF_iff.2 fun f hf => ?_)
    rcases mem_insF hf with hf | rfl
    · exact isNF_iff.1 h f hf
    · exact ⟨clean_valid nm, norm_isN v⟩
end
theorem while_all {α : Type} (p : α → Bool) : ∀ (l : List α), (∀ x ∈ l, p x = true) → l.takeWhile p = l ∧ l.dropWhile p = []
  | [], _ => ⟨rfl, rfl⟩
  | a :: l, h => by
    obtain ⟨h1, h2⟩ := while_all p l (fun x hx => h x (.tail _ hx))
    have ha := h a (.head _)
    rw [List.takeWhile_cons, List.dropWhile_cons, ha, h2]
    simp [h1]
/-- A name greater than all goes to the end. -/
theorem insF_end {out : List JF} {nm : ByteArray} {v : JV} (h : ∀ f ∈ out, lessB f.name nm = true) : insF out nm v = out ++ [.mk nm v] := by
  unfold insF
  have h1 : out.any (fun f => sameB f.name nm) = false := by
    rw [List.any_eq_false]
    intro f hf hs
    have e := sameB_iff.1 hs
    have := h f hf
    rw [e, lessB_irrefl] at this
    cases this
  obtain ⟨h2, h3⟩ := while_all (fun f : JF => lessB f.name nm) out h
  rw [h1, h2, h3]
  rfl
mutual
/-- The one form's one form is itself. -/
theorem norm_of_isN : ∀ (x : JV), x.isN → x.norm = x
  | .mk k t n d e s l f, h => by
    rw [JV.isN] at h
    rcases h with ⟨rfl, rfl, rfl, rfl, rfl, rfl, rfl, rfl⟩ | ⟨rfl, rfl, rfl, rfl, rfl, rfl, rfl⟩ | ⟨rfl, rfl, hN, rfl, rfl, rfl⟩ | ⟨rfl, rfl, rfl, rfl, rfl, hv, rfl, rfl⟩ | ⟨rfl, rfl, rfl, rfl, rfl, rfl, hl, rfl⟩ | ⟨rfl, rfl, rfl, rfl, rfl, rfl, rfl, hf, hr⟩
    · rw [JV.norm]; rfl
    · rw [JV.norm]; rfl
    · rw [JV.norm]; unfold decNorm; rw [form_numN hN]; rfl
    · rw [JV.norm, clean_of_valid hv]; rfl
    · rw [JV.norm, normL_of_isN l hl]; rfl
    · rw [JV.norm, normF_of_isN f [] hf (by simpa using hr)]; rfl
theorem normL_of_isN : ∀ (l : List JV), JV.isNL l → JV.normL l = l
  | [], _ => by rw [JV.normL]
  | x :: l, h => by
    rw [JV.isNL] at h
    rw [JV.normL, norm_of_isN x h.1, normL_of_isN l h.2]
theorem normF_of_isN : ∀ (l : List JF) (out : List JF), JV.isNF l → Rising (out ++ l) → JV.normF l out = out ++ l
  | [], out, _, _ => by rw [JV.normF, List.append_nil]
  | .mk nm v :: l, out, h, hr => by
    rw [JV.isNF] at h
    rw [JV.normF, clean_of_valid h.1.1, norm_of_isN v h.1.2, insF_end (fun f hf => ?_), normF_of_isN l _ h.2 (by rw [List.append_assoc]; exact hr), List.append_assoc]
    · rfl
    · exact (List.pairwise_append.1 hr).2.2 f hf (.mk nm v) (.head _)
end
/-! ### words and gaps -/
end Go.Proofs.YtkdeleafgailhaaGreatDoor
end
section
set_option linter.unusedVariables false
set_option linter.unusedSimpArgs false
namespace Go.Proofs.YtkdeleafgailhaaGreatDoor
open Go Go.RowKit

theorem deepL_mem : ∀ {l : List JV} {y : JV}, y ∈ l → y.deep ≤ JV.deepL l
  | x :: l, y, h => by
    rw [JV.deepL]
    rcases List.mem_cons.1 h with rfl | h
    · omega
    · have := deepL_mem h; omega
theorem deepF_mem : ∀ {l : List JF} {f : JF}, f ∈ l → f.value.deep ≤ JV.deepF l
  | .mk nm v :: l, f, h => by
    rw [JV.deepF]
    rcases List.mem_cons.1 h with rfl | h
    · simp only [JF.value]; omega
    · have := deepF_mem h; omega
end Go.Proofs.YtkdeleafgailhaaGreatDoor
end
section
set_option linter.unusedVariables false
set_option linter.unusedSimpArgs false
namespace Go.Proofs.YtkdeleafgailhaaGreatDoor
open Go Go.RowKit Go.Proofs.YtkdeleafgailhaaGreatDoorW.PrintWords

def RDepthOK (x : JV) : Prop := ∀ (w : World) (cs : List Value), kV.K w x cs → x.wt ≤ 4294967296 → x.norm.wt ≤ 4294967296 → x.ints →
  Calls Tryz.prog 19 #[.agg cs.toArray] w fun e w' => e = .returned (.int .i64 x.norm.deep) ∧ Below w.heap.size w w'

set_option maxRecDepth 100000 in
set_option maxHeartbeats 4000000 in
theorem rdepth_list (x : JV) (w : World) (cs : List Value) (hK : kV.K w x cs) (hwt : x.wt ≤ 4294967296) (hwn : x.norm.wt ≤ 4294967296) (hin : x.ints) (l : List JV) (hy : x.norm = .mk 4 false false ⟨#[]⟩ 0 ⟨#[]⟩ l []) (hok : ∀ z ∈ l, RDepthOK z ∧ z.norm = z ∧ z.ints) :
    Calls Tryz.prog 19 #[.agg cs.toArray] w fun e w' => e = .returned (.int .i64 ((1 + JV.deepL l : Nat) : Int)) ∧ Below w.heap.size w w' := by
  have cX := fun (W : World) (hb : Below w.heap.size w W) => rnorm_any x W cs (kV.K_below hb hK) (by omega) hin
  rw [hy] at hwn
  simp only [hy] at cX
  obtain ⟨A, c, B, d, rfl, _⟩ := kV_open hK
  unfold JV.cells at cX ⊢
  have hll := wtL_len l
  have hlw : JV.wtL l ≤ 4294967296 := by rw [JV.wt] at hwn; omega
  have hln : l.length ≤ 4294967296 := by omega
  have hB0 := (Below.refl _ w).alloc (Nat.le_refl _) (.cells #[.int .i64 x.kind, .bool x.truth, .bool x.neg, .string x.digits, .int .i64 x.exp, .string x.text, .slice A x.list.length c, .slice B x.fields.length d] 27)
  have hdw := deepL_wt l
  replace hB0 := Aside0.mk hB0
  clear hK hwt hwn hy
  go_enter Tryz.func19, Tryz.ntmps19
  go_wp2_with (go_at_call 18; refine (cX _ hB0.out).mono ?_; rintro e w1 ⟨cs1, rfl, hM1, hb1⟩; obtain ⟨vl, vf, rfl, hRl, hRf⟩ := kV_openM hM1; unfold JV.cells at hM1; obtain ⟨Al, cl, rfl⟩ := Kd.R_slice hRl; obtain ⟨Af, cf, rfl⟩ := Kd.R_slice hRf; have hK1 := kV.K_of_M hM1; unfold JV.cells; clear hRl hRf; simp only [JV.kind, JV.truth, JV.neg, JV.digits, JV.exp, JV.text, JV.list, JV.fields] at hM1 hK1 ⊢; replace hK1 := Aside0.mk hK1; obtain ⟨W2, hW2⟩ : ∃ W2, w1.alloc (.cells #[.int .i64 4, .bool false, .bool false, .string ⟨#[]⟩, .int .i64 0, .string ⟨#[]⟩, .slice Al l.length cl, .slice Af 0 cf] 27) = W2 := ⟨_, rfl⟩; have hB2 := Aside0.mk (hW2 ▸ (hB0.out.trans (hb1.mono hB0.out.size)).alloc ((hB0.out.trans (hb1.mono hB0.out.size)).size) (.cells #[.int .i64 4, .bool false, .bool false, .string ⟨#[]⟩, .int .i64 0, .string ⟨#[]⟩, .slice Al l.length cl, .slice Af 0 cf] 27)); have hbx := Aside0.mk (hW2 ▸ heap_alloc_new w1 (.cells #[.int .i64 4, .bool false, .bool false, .string ⟨#[]⟩, .int .i64 0, .string ⟨#[]⟩, .slice Al l.length cl, .slice Af 0 cf] 27)); have hc2 := cellAll hbx.out)
  have hC1 : Aside0 (kV.C W2 Al l.length l) := ⟨by
    obtain ⟨A', c', B', d', he, _, hC, _⟩ := kV_open hK1.out
    unfold JV.cells at he
    simp only [JV.list, JV.kind, JV.truth, JV.neg, JV.digits, JV.exp, JV.text, JV.fields, List.cons.injEq, Value.slice.injEq] at he hC
    rw [he.2.2.2.2.2.2.1.1]
    exact Kd.C_below hC (hW2 ▸ (Below.refl _ w1).alloc (Nat.le_refl _) _)⟩
  clear hW2 hK1
  go_loopw [4, 5] (fun q i wr => ∃ j : Nat, i = .int .i64 j ∧ q = .int .i64 ((JV.deepL (l.take j) : Nat) : Int) ∧ j ≤ l.length ∧ Below W2.heap.size W2 wr) (fun _ i _ => l.length - (intOf i).toNat)
  case atStart => exact ⟨0, rfl, by simp [JV.deepL], Nat.zero_le _, Below.refl _ _⟩
  case round =>
    obtain ⟨j, rfl, rfl, hj, hB⟩ := hrel
    clear hc2
    have hcr := cellAll ((hB.block _ (blk_lt hbx.out)).trans hbx.out)
    have hda := deepL_wt (l.take j)
    have hdb : JV.wtL (l.take j) ≤ JV.wtL l := by
      have : JV.wtL l = JV.wtL (l.take j) + JV.wtL (l.drop j) := by rw [← wtL_app, List.take_append_drop]
      omega
    by_cases hlt : j < l.length
    · obtain ⟨ad, x, A6, c6, A7, c7, rfl, hx, hcs, l6, g6, l7, g7⟩ := at_V (Kd.C_below hC1.out hB) j hlt
      have hK := kV_mkK l6 g6 l7 g7
      unfold JV.cells at hcs hK
      obtain ⟨q0, q1, q2, q3, q4, q5, q6, q7, _⟩ := hcs
      have hxm : x ∈ l := List.mem_of_getElem? hx
      obtain ⟨ho, hn, hi⟩ := hok x hxm
      have hwx := wt_memL hxm
      have cD := ho wr _ hK (by omega) (by rw [hn]; omega) hi
      rw [hn] at cD
      have hdx := deep_wt x
      have hsn : JV.deepL (l.take (j + 1)) = max (JV.deepL (l.take j)) x.deep := by
        rw [List.take_add_one, hx, Option.toList_some, deepL_snoc]
      replace hsn := Aside0.mk hsn
      replace cD := Aside0.mk cD
      clear hK hxm ho hn hx
      generalize JV.deepL (l.take j) = a at *
      generalize x.deep = b at *
      by_cases hab : a < b
      · have hab2 : (a : Int) < (b : Int) := by omega
        go_wp2_with (go_at_call 19; refine cD.out.mono ?_; rintro e w3 ⟨rfl, hb3⟩)
        go_roundw
        case rel => exact ⟨j + 1, by go_num, by rw [hsn.out, Nat.max_eq_right (by omega)], by omega, hB.trans (hb3.mono hB.size)⟩
        case measure => simp [intOf]; omega
      · have hab2 : ¬ (a : Int) < (b : Int) := by omega
        go_wp2_with (go_at_call 19; refine cD.out.mono ?_; rintro e w3 ⟨rfl, hb3⟩)
        go_roundw
        case rel => exact ⟨j + 1, by go_num, by rw [hsn.out, Nat.max_eq_left (by omega)], by omega, hB.trans (hb3.mono hB.size)⟩
        case measure => simp [intOf]; omega
    · obtain rfl : j = l.length := by omega
      have htk : l.take l.length = l := List.take_length
      rw [htk]
      go_wp2_with fail
      go_loopw [4, 7] (fun q i wr2 => q = .int .i64 ((JV.deepL l : Nat) : Int) ∧ i = .int .i64 0 ∧ wr2 = wr) (fun _ _ _ => 0)
      case atStart => exact ⟨rfl, rfl, rfl⟩
      case round =>
        obtain ⟨rfl, rfl, rfl⟩ := hrel
        have hcr3 := cellAll ((hB.block _ (blk_lt hbx.out)).trans hbx.out)
        go_wp2_with fail
        go_ret
        exact ⟨by congr 2, hB2.out.trans (hB.mono hB2.out.size)⟩

set_option maxRecDepth 100000 in
set_option maxHeartbeats 4000000 in
theorem rdepth_obj (x : JV) (w : World) (cs : List Value) (hK : kV.K w x cs) (hwt : x.wt ≤ 4294967296) (hwn : x.norm.wt ≤ 4294967296) (hin : x.ints) (l : List JF) (hy : x.norm = .mk 5 false false ⟨#[]⟩ 0 ⟨#[]⟩ [] l) (hok : ∀ z ∈ l, RDepthOK z.value ∧ z.value.norm = z.value ∧ z.value.ints) :
    Calls Tryz.prog 19 #[.agg cs.toArray] w fun e w' => e = .returned (.int .i64 ((1 + JV.deepF l : Nat) : Int)) ∧ Below w.heap.size w w' := by
  have cX := fun (W : World) (hb : Below w.heap.size w W) => rnorm_any x W cs (kV.K_below hb hK) (by omega) hin
  rw [hy] at hwn
  simp only [hy] at cX
  obtain ⟨A, c, B, d, rfl, _⟩ := kV_open hK
  unfold JV.cells at cX ⊢
  have hll := wtF_len l
  have hlw : JV.wtF l ≤ 4294967296 := by rw [JV.wt] at hwn; omega
  have hln : l.length ≤ 4294967296 := by omega
  have hB0 := (Below.refl _ w).alloc (Nat.le_refl _) (.cells #[.int .i64 x.kind, .bool x.truth, .bool x.neg, .string x.digits, .int .i64 x.exp, .string x.text, .slice A x.list.length c, .slice B x.fields.length d] 27)
  have hdw := deepF_wt l
  replace hB0 := Aside0.mk hB0
  clear hK hwt hwn hy
  go_enter Tryz.func19, Tryz.ntmps19
  go_wp2_with (go_at_call 18; refine (cX _ hB0.out).mono ?_; rintro e w1 ⟨cs1, rfl, hM1, hb1⟩; obtain ⟨vl, vf, rfl, hRl, hRf⟩ := kV_openM hM1; unfold JV.cells at hM1; obtain ⟨Al, cl, rfl⟩ := Kd.R_slice hRl; obtain ⟨Af, cf, rfl⟩ := Kd.R_slice hRf; have hK1 := kV.K_of_M hM1; unfold JV.cells; clear hRl hRf; simp only [JV.kind, JV.truth, JV.neg, JV.digits, JV.exp, JV.text, JV.list, JV.fields] at hM1 hK1 ⊢; replace hK1 := Aside0.mk hK1; obtain ⟨W2, hW2⟩ : ∃ W2, w1.alloc (.cells #[.int .i64 5, .bool false, .bool false, .string ⟨#[]⟩, .int .i64 0, .string ⟨#[]⟩, .slice Al 0 cl, .slice Af l.length cf] 27) = W2 := ⟨_, rfl⟩; have hB2 := Aside0.mk (hW2 ▸ (hB0.out.trans (hb1.mono hB0.out.size)).alloc ((hB0.out.trans (hb1.mono hB0.out.size)).size) (.cells #[.int .i64 5, .bool false, .bool false, .string ⟨#[]⟩, .int .i64 0, .string ⟨#[]⟩, .slice Al 0 cl, .slice Af l.length cf] 27)); have hbx := Aside0.mk (hW2 ▸ heap_alloc_new w1 (.cells #[.int .i64 5, .bool false, .bool false, .string ⟨#[]⟩, .int .i64 0, .string ⟨#[]⟩, .slice Al 0 cl, .slice Af l.length cf] 27)); have hc2 := cellAll hbx.out)
  have hC1 : Aside0 (kF.C W2 Af l.length l) := ⟨by
    obtain ⟨A', c', B', d', he, _, _, _, hC⟩ := kV_open hK1.out
    unfold JV.cells at he
    simp only [JV.list, JV.kind, JV.truth, JV.neg, JV.digits, JV.exp, JV.text, JV.fields, List.cons.injEq, Value.slice.injEq] at he hC
    rw [he.2.2.2.2.2.2.2.1.1]
    exact Kd.C_below hC (hW2 ▸ (Below.refl _ w1).alloc (Nat.le_refl _) _)⟩
  clear hW2 hK1
  go_loopw [4, 5] (fun q i wr => q = .int .i64 0 ∧ i = .int .i64 0 ∧ wr = W2) (fun _ _ _ => 0)
  case atStart => exact ⟨rfl, rfl, rfl⟩
  case round =>
    obtain ⟨rfl, rfl, rfl⟩ := hrel
    have hc3 := cellAll hbx.out
    go_wp2_with fail
    go_loopw [4, 7] (fun q i wr2 => ∃ j : Nat, i = .int .i64 j ∧ q = .int .i64 ((JV.deepF (l.take j) : Nat) : Int) ∧ j ≤ l.length ∧ Below wr.heap.size wr wr2) (fun _ i _ => l.length - (intOf i).toNat)
    case atStart => exact ⟨0, rfl, by simp [JV.deepF], Nat.zero_le _, Below.refl _ _⟩
    case round =>
      obtain ⟨j, rfl, rfl, hj, hB⟩ := hrel
      have hcr := cellAll ((hB.block _ (blk_lt hbx.out)).trans hbx.out)
      have hda := deepF_wt (l.take j)
      have hdb : JV.wtF (l.take j) ≤ JV.wtF l := by
        have : JV.wtF l = JV.wtF (l.take j) + JV.wtF (l.drop j) := by rw [← wtF_app, List.take_append_drop]
        omega
      by_cases hlt : j < l.length
      · obtain ⟨ad, x, A6, c6, A7, c7, rfl, hx, hcs, l6, g6, l7, g7⟩ := at_F (Kd.C_below hC1.out hB) j hlt
        have hK := kV_mkK l6 g6 l7 g7
        unfold JV.cells at hcs hK
        obtain ⟨q0, q1, q2, q3, q4, q5, q6, q7, q8, _⟩ := hcs
        have hxm : x ∈ l := List.mem_of_getElem? hx
        obtain ⟨ho, hn, hi⟩ := hok x hxm
        have hwx := wt_memF hxm
        have cD := ho _ _ hK (by omega) (by rw [hn]; omega) hi
        rw [hn] at cD
        have hdx := deep_wt x.value
        have hsn : JV.deepF (l.take (j + 1)) = max (JV.deepF (l.take j)) x.value.deep := by
          rw [List.take_add_one, hx, Option.toList_some, deepF_snoc]
        replace hsn := Aside0.mk hsn
        replace cD := Aside0.mk cD
        clear hK hxm ho hn hx
        generalize JV.deepF (l.take j) = a at *
        generalize x.value.deep = b at *
        by_cases hab : a < b
        · have hab2 : (a : Int) < (b : Int) := by omega
          go_wp2_with (go_at_call 19; refine cD.out.mono ?_; rintro e w3 ⟨rfl, hb3⟩)
          go_roundw
          case rel => exact ⟨j + 1, by go_num, by rw [hsn.out, Nat.max_eq_right (by omega)], by omega, hB.trans (hb3.mono hB.size)⟩
          case measure => simp [intOf]; omega
        · have hab2 : ¬ (a : Int) < (b : Int) := by omega
          go_wp2_with (go_at_call 19; refine cD.out.mono ?_; rintro e w3 ⟨rfl, hb3⟩)
          go_roundw
          case rel => exact ⟨j + 1, by go_num, by rw [hsn.out, Nat.max_eq_left (by omega)], by omega, hB.trans (hb3.mono hB.size)⟩
          case measure => simp [intOf]; omega
      · obtain rfl : j = l.length := by omega
        have htk : l.take l.length = l := List.take_length
        rw [htk]
        go_wp2_with fail
        go_ret
        exact ⟨by congr 2, hB2.out.trans (hB.mono hB2.out.size)⟩

set_option maxRecDepth 100000 in
set_option maxHeartbeats 4000000 in
theorem rdepth_rest (x : JV) (w : World) (cs : List Value) (hK : kV.K w x cs) (hwt : x.wt ≤ 4294967296) (hin : x.ints) (h4 : ¬ x.norm.kind = 4) (h5 : ¬ x.norm.kind = 5) :
    Calls Tryz.prog 19 #[.agg cs.toArray] w fun e w' => e = .returned (.int .i64 0) ∧ Below w.heap.size w w' := by
  have cX := fun (W : World) (hb : Below w.heap.size w W) => rnorm_any x W cs (kV.K_below hb hK) (by omega) hin
  obtain ⟨A, c, B, d, rfl, _⟩ := kV_open hK
  unfold JV.cells at cX ⊢
  have hB0 := (Below.refl _ w).alloc (Nat.le_refl _) (.cells #[.int .i64 x.kind, .bool x.truth, .bool x.neg, .string x.digits, .int .i64 x.exp, .string x.text, .slice A x.list.length c, .slice B x.fields.length d] 27)
  have b4 : (x.norm.kind != 4) = true := by simpa using h4
  have b5 : (x.norm.kind != 5) = true := by simpa using h5
  generalize x.norm = y at *
  replace hB0 := Aside0.mk hB0
  clear hK hwt
  go_enter Tryz.func19, Tryz.ntmps19
  go_wp2_with (go_at_call 18; refine (cX _ hB0.out).mono ?_; rintro e w1 ⟨cs1, rfl, hM1, hb1⟩; obtain ⟨vl, vf, rfl, hRl, hRf⟩ := kV_openM hM1; unfold JV.cells at hM1; obtain ⟨Al, cl, rfl⟩ := Kd.R_slice hRl; obtain ⟨Af, cf, rfl⟩ := Kd.R_slice hRf; unfold JV.cells; clear hRl hRf hM1; have hL := Aside0.mk (hB0.out.trans (hb1.mono hB0.out.size)))
  go_ret
  exact ⟨rfl, hL.out.alloc hL.out.size _⟩
theorem rdepth_step (x : JV) (hl : ∀ z ∈ x.norm.list, RDepthOK z) (hf : ∀ g ∈ x.norm.fields, RDepthOK g.value) : RDepthOK x := by
  intro w cs hK hwt hwn hin
  have hN := norm_isN x
  have hI := norm_ints x
  rcases hx : x.norm with ⟨k, t, n, d, e, s, l, f⟩
  rw [hx] at hN hI hl hf
  simp only [JV.list, JV.fields] at hl hf
  have flat : ∀ {y : JV}, x.norm = y → y.kind ≠ 4 → y.kind ≠ 5 → y.deep = 0 → Calls Tryz.prog 19 #[.agg cs.toArray] w fun e w' => e = .returned (.int .i64 y.deep) ∧ Below w.heap.size w w' := by
    intro y hy h4 h5 h0
    rw [h0]
    exact rdepth_rest x w cs hK hwt hin (by rw [hy]; exact h4) (by rw [hy]; exact h5)
  rw [JV.isN] at hN
  rw [JV.ints] at hI
  rcases hN with ⟨rfl, rfl, rfl, rfl, rfl, rfl, rfl, rfl⟩ | ⟨rfl, rfl, rfl, rfl, rfl, rfl, rfl⟩ | ⟨rfl, rfl, hN, rfl, rfl, rfl⟩ | ⟨rfl, rfl, rfl, rfl, rfl, hv, rfl, rfl⟩ | ⟨rfl, rfl, rfl, rfl, rfl, rfl, hL, rfl⟩ | ⟨rfl, rfl, rfl, rfl, rfl, rfl, rfl, hF, hr⟩
  · exact flat hx (by show (0 : Int) ≠ 4; decide) (by show (0 : Int) ≠ 5; decide) (by rw [JV.deep]; rfl)
  · exact flat hx (by show (1 : Int) ≠ 4; decide) (by show (1 : Int) ≠ 5; decide) (by rw [JV.deep]; rfl)
  · exact flat hx (by show (2 : Int) ≠ 4; decide) (by show (2 : Int) ≠ 5; decide) (by rw [JV.deep]; rfl)
  · exact flat hx (by show (3 : Int) ≠ 4; decide) (by show (3 : Int) ≠ 5; decide) (by rw [JV.deep]; rfl)
  · have hd : (JV.mk 4 false false ⟨#[]⟩ 0 ⟨#[]⟩ l []).deep = 1 + JV.deepL l := by rw [JV.deep]; rfl
    rw [hd]
    exact rdepth_list x w cs hK hwt hwn hin l hx (fun z hz => ⟨hl z hz, norm_of_isN z (isNL_iff.1 hL z hz), ints_memL hz hI.2.2.1⟩)
  · have hd : (JV.mk 5 false false ⟨#[]⟩ 0 ⟨#[]⟩ [] f).deep = 1 + JV.deepF f := by rw [JV.deep]; rfl
    rw [hd]
    exact rdepth_obj x w cs hK hwt hwn hin f hx (fun z hz => ⟨hf z hz, norm_of_isN z.value (isNF_iff.1 hF z hz).2, ints_memF hz hI.2.2.2⟩)
theorem rdepth_all : ∀ (n : Nat) (x : JV), x.norm.deep < n → RDepthOK x
  | 0, x, h => by omega
  | n + 1, x, h => by
    have hN := norm_isN x
    refine rdepth_step x (fun z hz => rdepth_all n z ?_) (fun g hg => rdepth_all n g.value ?_)
    · rcases hx : x.norm with ⟨k, t, m, d, e, s, l, f⟩
      rw [hx] at hN hz h
      simp only [JV.list] at hz
      rw [JV.isN] at hN
      rcases hN with ⟨_, _, _, _, _, _, rfl, rfl⟩ | ⟨_, _, _, _, _, rfl, rfl⟩ | ⟨_, _, _, _, rfl, rfl⟩ | ⟨_, _, _, _, _, _, rfl, rfl⟩ | ⟨rfl, _, _, _, _, _, hL, rfl⟩ | ⟨_, _, _, _, _, _, rfl, hF, _⟩
      · cases hz
      · cases hz
      · cases hz
      · cases hz
      · have h1 : (JV.mk 4 t m d e s l []).deep = 1 + JV.deepL l := by rw [JV.deep]; rfl
        have := deepL_mem hz
        rw [norm_of_isN z (isNL_iff.1 hL z hz)]
        omega
      · cases hz
    · rcases hx : x.norm with ⟨k, t, m, d, e, s, l, f⟩
      rw [hx] at hN hg h
      simp only [JV.fields] at hg
      rw [JV.isN] at hN
      rcases hN with ⟨_, _, _, _, _, _, rfl, rfl⟩ | ⟨_, _, _, _, _, rfl, rfl⟩ | ⟨_, _, _, _, rfl, rfl⟩ | ⟨_, _, _, _, _, _, rfl, rfl⟩ | ⟨rfl, _, _, _, _, _, hL, rfl⟩ | ⟨rfl, _, _, _, _, _, rfl, hF, _⟩
      · cases hg
      · cases hg
      · cases hg
      · cases hg
      · cases hg
      · have h1 : (JV.mk 5 t m d e s [] f).deep = 1 + JV.deepF f := by rw [JV.deep]; rfl
        have := deepF_mem hg
        rw [norm_of_isN g.value (isNF_iff.1 hF g hg).2]
        omega
/-- **voyageref02.Depth.** -/
theorem rdepth_any (x : JV) : RDepthOK x := rdepth_all _ x (Nat.lt_succ_self _)
end Go.Proofs.YtkdeleafgailhaaGreatDoor
end
section
set_option linter.unusedVariables false
set_option linter.unusedSimpArgs false
namespace Go.Proofs.YtkdeleafgailhaaGreatDoor
open Go Go.RowKit

end Go.Proofs.YtkdeleafgailhaaGreatDoor
end
section
set_option linter.unusedVariables false
set_option linter.unusedSimpArgs false
namespace Go.Proofs.YtkdeleafgailhaaGreatDoor
open Go Go.RowKit

end Go.Proofs.YtkdeleafgailhaaGreatDoor
end
section
set_option linter.unusedVariables false
set_option linter.unusedSimpArgs false
namespace Go.Proofs.YtkdeleafgailhaaGreatDoor
open Go Go.RowKit

end Go.Proofs.YtkdeleafgailhaaGreatDoor
end
section
set_option linter.unusedVariables false
set_option linter.unusedSimpArgs false
namespace Go.Proofs.YtkdeleafgailhaaGreatDoor
open Go Go.RowKit

end Go.Proofs.YtkdeleafgailhaaGreatDoor
end
section
set_option linter.unusedVariables false
set_option linter.unusedSimpArgs false
namespace Go.Proofs.YtkdeleafgailhaaGreatDoor
open Go Go.RowKit

end Go.Proofs.YtkdeleafgailhaaGreatDoor
end
section
set_option linter.unusedVariables false
set_option linter.unusedSimpArgs false
namespace Go.Proofs.YtkdeleafgailhaaGreatDoor
open Go Go.RowKit Go.Proofs.YtkdeleafgailhaaGreatDoorW.PrintWords

theorem like_same (x : JV) (w : World) (cs cs' : List Value) (hK : kV.K w x cs) (hK' : kV.K w x cs') : Calls Tryz.prog 17 #[.agg cs.toArray, .agg cs'.toArray] w fun e w' => e = .returned (.bool true) ∧ Below w.heap.size w w' := by
  refine (like_any x x w cs cs' hK hK').mono ?_
  rintro e w' ⟨b, rfl, h, hb⟩
  rw [h.2 rfl]
  exact ⟨rfl, hb⟩
end Go.Proofs.YtkdeleafgailhaaGreatDoor
end
