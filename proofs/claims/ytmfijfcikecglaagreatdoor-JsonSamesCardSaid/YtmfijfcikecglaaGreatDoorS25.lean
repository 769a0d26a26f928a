/- voyageref02.Norm at objects. voyageref02.Norm is JV.norm; voyageref02.Same. There and back, plainly: the one form of values. There and back, plainly: **a value in its one form, told, is read as it**; so two that are told alike are one. voyageref02.Depth tells how deep a value's one form is. How deep what is read may be: plain. The one form is no deeper; reading is one whatever the depth allowed: plain. A reading stays the same where more brackets are allowed: plain. What is told of a value in its one form: read as it, or at fault where it is too deep: plain. Where a fault is: within the text: plain. voyagelaw02.JsonTexts: true. -/
import Derived.Test.YtmfijfcikecglaaGreatDoorS24
import Derived.Test.YtmfijfcikecglaaGreatDoorS21
import Derived.Test.YtmfijfcikecglaaGreatDoorS22
import Derived.Test.YtmfijfcikecglaaGreatDoorS19
import Derived.Test.YtmfijfcikecglaaGreatDoorS10
import Derived.Test.YtmfijfcikecglaaGreatDoorS20
import Derived.Deep.RegionHeld3
section
set_option linter.unusedVariables false
set_option linter.unusedSimpArgs false
namespace Go.Proofs.YtmfijfcikecglaaGreatDoor
open Go Go.RowKit Go.Proofs.YtmfijfcikecglaaGreatDoorW.PrintWords

theorem nine_far {w : World} {b k : Nat} (h : k ≠ b) (u0 u1 u2 u3 u4 u5 u6 u7 u8 : Value) : (((((((((w.setCell ⟨b, 0, none⟩ u0).setCell ⟨b, 1, none⟩ u1).setCell ⟨b, 2, none⟩ u2).setCell ⟨b, 3, none⟩ u3).setCell ⟨b, 4, none⟩ u4).setCell ⟨b, 5, none⟩ u5).setCell ⟨b, 6, none⟩ u6).setCell ⟨b, 7, none⟩ u7).setCell ⟨b, 8, none⟩ u8).heap[k]? = w.heap[k]? :=
  setCells_far [u0, u1, u2, u3, u4, u5, u6, u7, u8] 0 k h
theorem at_world {Q : Exit → Act → World → Prop} {e : Exit} {a : Act} {F : World} (P : World → Prop) (h : P F) (k : P F → Q e a F) : Q e a F := k h
theorem below_nine {B : Nat} {a w : World} {b : Nat} (h : Below B a w) (hb : B ≤ b) (u0 u1 u2 u3 u4 u5 u6 u7 u8 : Value) : Below B a (((((((((w.setCell ⟨b, 0, none⟩ u0).setCell ⟨b, 1, none⟩ u1).setCell ⟨b, 2, none⟩ u2).setCell ⟨b, 3, none⟩ u3).setCell ⟨b, 4, none⟩ u4).setCell ⟨b, 5, none⟩ u5).setCell ⟨b, 6, none⟩ u6).setCell ⟨b, 7, none⟩ u7).setCell ⟨b, 8, none⟩ u8) :=
  set_far (set_far (set_far (set_far (set_far (set_far (set_far (set_far (set_far h hb u0) hb u1) hb u2) hb u3) hb u4) hb u5) hb u6) hb u7) hb u8
set_option maxRecDepth 100000 in
set_option maxHeartbeats 8000000 in
theorem rnorm_fields (w : World) (t ng : Bool) (ds tx : ByteArray) (ex : Int) (A B : Option Addr) (nl c nf d : Nat) (fs : List JF) (hC : kF.C w B nf fs) (hnd : nf ≤ d) (hok : ∀ f ∈ fs, RNormOK f.value) (hwt : JV.wtF fs ≤ 4294967296) (hin : JV.intsF fs) :
    Calls Tryz.prog 23 #[.agg #[.int .i64 5, .bool t, .bool ng, .string ds, .int .i64 ex, .string tx, .slice A nl c, .slice B nf d]] w fun e w' => ∃ cs', e = .returned (.agg cs'.toArray) ∧ kV.M w' w.heap.size (fun _ => True) (.mk 5 false false ⟨#[]⟩ 0 ⟨#[]⟩ [] (JV.normF fs [])) cs' ∧ Below w.heap.size w w' := by
  have hB0 := ((Below.refl _ w).alloc (Nat.le_refl _) (.cells #[.int .i64 5, .bool t, .bool ng, .string ds, .int .i64 ex, .string tx, .slice A nl c, .slice B nf d] 27)).alloc (by simp) (.cells #[.int .i64 0, .bool false, .bool false, .string ⟨#[]⟩, .int .i64 0, .string ⟨#[]⟩, .slice none 0 0, .slice none 0 0] 27)
  have hlen := hC.1
  have hll := wtF_len fs
  have hnl : nf ≤ 4294967296 := by omega
  obtain ⟨e0, e1⟩ := boxes' w (.cells #[.int .i64 5, .bool t, .bool ng, .string ds, .int .i64 ex, .string tx, .slice A nl c, .slice B nf d] 27) (.cells #[.int .i64 0, .bool false, .bool false, .string ⟨#[]⟩, .int .i64 0, .string ⟨#[]⟩, .slice none 0 0, .slice none 0 0] 27)
  go_enter Tryz.func23, Tryz.ntmps23
  go_wp2_with fail
  obtain ⟨W3, hW3⟩ : ∃ W3, (((w.alloc (.cells #[.int .i64 5, .bool t, .bool ng, .string ds, .int .i64 ex, .string tx, .slice A nl c, .slice B nf d] 27)).alloc (.cells #[.int .i64 0, .bool false, .bool false, .string ⟨#[]⟩, .int .i64 0, .string ⟨#[]⟩, .slice none 0 0, .slice none 0 0] 27)).alloc (.cells #[.int .i64 5, .bool false, .bool false, .string ⟨#[]⟩, .int .i64 0, .string ⟨#[]⟩, .slice none 0 0, .slice none 0 0] 27)) = W3 := ⟨_, rfl⟩
  have f2 := heap_alloc_new ((w.alloc (.cells #[.int .i64 5, .bool t, .bool ng, .string ds, .int .i64 ex, .string tx, .slice A nl c, .slice B nf d] 27)).alloc (.cells #[.int .i64 0, .bool false, .bool false, .string ⟨#[]⟩, .int .i64 0, .string ⟨#[]⟩, .slice none 0 0, .slice none 0 0] 27)) (.cells #[.int .i64 5, .bool false, .bool false, .string ⟨#[]⟩, .int .i64 0, .string ⟨#[]⟩, .slice none 0 0, .slice none 0 0] 27)
  have f0 := (heap_alloc_old _ (.cells #[.int .i64 5, .bool false, .bool false, .string ⟨#[]⟩, .int .i64 0, .string ⟨#[]⟩, .slice none 0 0, .slice none 0 0] 27) (blk_lt e0)).trans e0
  have f1 := (heap_alloc_old _ (.cells #[.int .i64 5, .bool false, .bool false, .string ⟨#[]⟩, .int .i64 0, .string ⟨#[]⟩, .slice none 0 0, .slice none 0 0] 27) (blk_lt e1)).trans e1
  have hB3 := hB0.alloc (by simp; omega) (.cells #[.int .i64 5, .bool false, .bool false, .string ⟨#[]⟩, .int .i64 0, .string ⟨#[]⟩, .slice none 0 0, .slice none 0 0] 27)
  have hs2 : ((w.alloc (.cells #[.int .i64 5, .bool t, .bool ng, .string ds, .int .i64 ex, .string tx, .slice A nl c, .slice B nf d] 27)).alloc (.cells #[.int .i64 0, .bool false, .bool false, .string ⟨#[]⟩, .int .i64 0, .string ⟨#[]⟩, .slice none 0 0, .slice none 0 0] 27)).heap.size = w.heap.size + 1 + 1 := by simp
  have hs3 : W3.heap.size = w.heap.size + 3 := by rw [← hW3]; simp
  rw [hs2] at f2
  rw [hW3] at f0 f1 f2 hB3 ⊢
  clear hW3 hs2 e0 e1 hB0
  replace hlen := Aside0.mk hlen
  replace f0 := Aside0.mk f0
  replace f1 := Aside0.mk f1
  replace f2 := Aside0.mk f2
  replace hB3 := Aside0.mk hB3
  go_loopw [6] (fun i wr => ∃ (j : Nat) (v : Value), i = .int .i64 j ∧ j ≤ nf ∧ wr.heap[w.heap.size + 1 + 1]? = some (.cells #[.int .i64 5, .bool false, .bool false, .string ⟨#[]⟩, .int .i64 0, .string ⟨#[]⟩, .slice none 0 0, v] 27 (0, 0)) ∧ kF.R 68 wr (w.heap.size + 3) (fun _ => True) v (JV.normF (fs.take j) []) ∧ Below (w.heap.size + 2) W3 wr) (fun i _ => nf - (intOf i).toNat)
  case atStart => exact ⟨0, _, rfl, Nat.zero_le _, f2.out, R_nilF _ _ _, Below.refl _ _⟩
  case round =>
    obtain ⟨j, v, rfl, hj, hbx, hR, hB⟩ := hrel
    obtain ⟨VA, vc, hv⟩ := Kd.R_slice hR
    have hrise := rising_normF (fs.take j) [] rising_nil
    have hol := length_normF_le (fs.take j) []
    rw [List.length_take, hlen.out] at hol
    have hsnoc : ∀ x, fs[j]? = some x → JV.normF (fs.take (j + 1)) [] = insF (JV.normF (fs.take j) []) (clean x.name) x.value.norm := by
      rintro ⟨nm, v⟩ hx
      rw [List.take_add_one, hx, Option.toList_some, normF_app, JV.normF, JV.normF]
      rfl
    replace hsnoc := Aside0.mk hsnoc
    obtain ⟨m, hm⟩ : ∃ m, (JV.normF (fs.take j) []).length = m := ⟨_, rfl⟩
    rw [hm] at hv hol
    subst hv
    have hol2 : m ≤ 4294967296 := by have : min j nf ≤ j := Nat.min_le_left _ _; simp at hol; omega
    have hbf := (hB.block w.heap.size (by omega)).trans f0.out
    have hcf := cellAll hbf
    have hcx := cellAll hbx
    have hfx := frozenAll hbx
    have hBw : Below w.heap.size w wr := hB3.out.trans (hB.mono (by omega))
    clear hol
    by_cases hlt : j < nf
    · obtain ⟨ad, x, A6, c6, A7, c7, rfl, hx, hcs, l6, g6, l7, g7⟩ := at_F hC j hlt
      have hK := kV_mkK l6 g6 l7 g7
      unfold JV.cells at hcs hK
      obtain ⟨q0, q1, q2, q3, q4, q5, q6, q7, q8, _⟩ := hcs
      have hxm : x ∈ fs := List.mem_of_getElem? hx
      have hnx := hok x hxm
      have hwx := wt_memF hxm
      have hix := ints_memF hxm hin
      have cN := fun (W : World) (hb : Below w.heap.size w W) => hnx W _ (kV.K_below hb hK) (by omega) hix
      have cC := fun (W : World) => rClean_any x.name W (by omega)
      have hsn := hsnoc.out x hx
      generalize clean x.name = nm at cC hsn
      have hSof : ∀ W, Below (w.heap.size + 2) wr W → W.cell? ⟨w.heap.size, 7, none⟩ = some (.slice (some ad) nf d) ∧ W.cell? (ad.add (j * 9)) = some (.string x.name) ∧ W.cell? ⟨(ad.add (j * 9)).block, (ad.add (j * 9)).off + (0 + 1), none⟩ = some (.int .i64 x.value.kind) ∧ W.cell? ⟨(ad.add (j * 9)).block, (ad.add (j * 9)).off + (1 + 1), none⟩ = some (.bool x.value.truth) ∧ W.cell? ⟨(ad.add (j * 9)).block, (ad.add (j * 9)).off + (2 + 1), none⟩ = some (.bool x.value.neg) ∧ W.cell? ⟨(ad.add (j * 9)).block, (ad.add (j * 9)).off + (3 + 1), none⟩ = some (.string x.value.digits) ∧ W.cell? ⟨(ad.add (j * 9)).block, (ad.add (j * 9)).off + (4 + 1), none⟩ = some (.int .i64 x.value.exp) ∧ W.cell? ⟨(ad.add (j * 9)).block, (ad.add (j * 9)).off + (5 + 1), none⟩ = some (.string x.value.text) ∧ W.cell? ⟨(ad.add (j * 9)).block, (ad.add (j * 9)).off + (6 + 1), none⟩ = some (.slice A6 x.value.list.length c6) ∧ W.cell? ⟨(ad.add (j * 9)).block, (ad.add (j * 9)).off + (7 + 1), none⟩ = some (.slice A7 x.value.fields.length c7) := fun W hb => by
        have hbw := hBw.trans (hb.mono (by omega))
        refine ⟨cellAll ((hb.block w.heap.size (by omega)).trans hbf) 7, ?_, ?_, ?_, ?_, ?_, ?_, ?_, ?_, ?_⟩ <;> first | exact pw_cell_below hbw q0 | exact pw_cell_below hbw q1 | exact pw_cell_below hbw q2 | exact pw_cell_below hbw q3 | exact pw_cell_below hbw q4 | exact pw_cell_below hbw q5 | exact pw_cell_below hbw q6 | exact pw_cell_below hbw q7 | exact pw_cell_below hbw q8
      have hS0 := hSof wr (Below.refl _ _)
      have hS1 := hSof wr.drew (Below.refl _ _).drew
      have hbc : Below wr.heap.size wr wr.drew := (Below.refl _ _).drew
      have hws : w.heap.size + 3 ≤ wr.heap.size := by have := hB.size; omega
      have hSa2 := fun o => hSof (wr.alloc o).drew ((((Below.refl wr.heap.size wr).mono (by omega)).alloc (by omega) o).drew)
      have hSa1 := fun o => hSof (wr.drew.alloc o) ((hbc.mono (by omega)).alloc (by show _ ≤ wr.heap.size; omega) o)
      have hj1 : (j : Int) < (nf : Int) := by omega
      have hj0 : (0 : Int) ≤ (j : Int) := by omega
      replace hR := Aside0.mk hR
      replace hx := Aside0.mk hx
      replace hm := Aside0.mk hm
      replace hbx := Aside0.mk hbx
      replace hbf := Aside0.mk hbf
      replace hrise := Aside0.mk hrise
      clear hnx hK hxm q0 q1 q2 q3 q4 q5 q6 q7 q8 hsnoc
      replace hsn := Aside0.mk hsn
      generalize JV.normF (fs.take j) [] = out at *
      go_wp2_with fail
      go_region_held3 (fun W => W.cell? ⟨w.heap.size, 7, none⟩ = some (.slice (some ad) nf d) ∧ W.cell? (ad.add (j * 9)) = some (.string x.name) ∧ W.cell? ⟨(ad.add (j * 9)).block, (ad.add (j * 9)).off + (0 + 1), none⟩ = some (.int .i64 x.value.kind) ∧ W.cell? ⟨(ad.add (j * 9)).block, (ad.add (j * 9)).off + (1 + 1), none⟩ = some (.bool x.value.truth) ∧ W.cell? ⟨(ad.add (j * 9)).block, (ad.add (j * 9)).off + (2 + 1), none⟩ = some (.bool x.value.neg) ∧ W.cell? ⟨(ad.add (j * 9)).block, (ad.add (j * 9)).off + (3 + 1), none⟩ = some (.string x.value.digits) ∧ W.cell? ⟨(ad.add (j * 9)).block, (ad.add (j * 9)).off + (4 + 1), none⟩ = some (.int .i64 x.value.exp) ∧ W.cell? ⟨(ad.add (j * 9)).block, (ad.add (j * 9)).off + (5 + 1), none⟩ = some (.string x.value.text) ∧ W.cell? ⟨(ad.add (j * 9)).block, (ad.add (j * 9)).off + (6 + 1), none⟩ = some (.slice A6 x.value.list.length c6) ∧ W.cell? ⟨(ad.add (j * 9)).block, (ad.add (j * 9)).off + (7 + 1), none⟩ = some (.slice A7 x.value.fields.length c7))
        (first | (with_reducible exact hS0) | (with_reducible exact hS1) | (with_reducible exact hSwC) | (with_reducible exact hSwN) | (with_reducible exact hSa1 _) | (with_reducible exact hSa2 _) | (with_reducible exact hSaC _) | (with_reducible exact hSaN _) | (refine hSof _ ?_; with_reducible exact below_nine hbc8 hbc9 _ _ _ _ _ _ _ _ _) | (refine hSof _ ?_; with_reducible exact below_nine hbc8 hbc8z _ _ _ _ _ _ _ _ _))
        (first
          | (go_at_call 47; refine (cC _).mono ?_; rintro e wC ⟨rfl, hbC⟩; (first | (have hb7 := (hbC.block _ (blk_lt hb7.out)).trans hb7.out; have hc7 := cellAll hb7; have hf7 := frozenAll hb7; replace hb7 := Aside0.mk hb7) | (have hb7 := (hbC.block _ (by simp)).trans (heap_alloc_new _ _); (try rw [show wr.drew.heap.size = wr.heap.size from rfl] at hb7); have hc7 := cellAll hb7; have hf7 := frozenAll hb7; replace hb7 := Aside0.mk hb7) | skip); (try (have hb7l := blk_lt hb7.out)); (try (have hMn := Aside0.mk (a := kV.M wC wr.heap.size _ x.value.norm [.int .i64 x.value.norm.kind, .bool x.value.norm.truth, .bool x.value.norm.neg, .string x.value.norm.digits, .int .i64 x.value.norm.exp, .string x.value.norm.text, .slice Al x.value.norm.list.length cl, .slice Af x.value.norm.fields.length cf]) (by first | exact Kd.M_below hMn.out hbC | exact Kd.M_below (Kd.M_below hMn.out ((Below.refl _ _).alloc (Nat.le_refl _) _)) hbC))); have hbc : Below wr.heap.size wr wC := (by first | exact hbc.trans (hbC.mono hbc.size) | exact (hbc.alloc hbc.size _).trans (hbC.mono (hbc.alloc hbc.size _).size)); have hzwC := hbc.size; have hSwC := hSof wC (hbc.mono (by omega)); have hSaC := fun o => hSof (wC.alloc o) ((hbc.mono (by omega)).alloc (by omega) o))
          | (go_at_call 23; refine (cN _ ?hb).mono ?_; (case hb => (first | exact hBw.trans (hbc.mono (by omega)) | exact hBw.trans ((hbc.alloc hbc.size _).mono (by omega)))); rintro e wN ⟨cs', rfl, hM, hbN⟩; obtain ⟨vl, vf, rfl, hRl, hRf⟩ := kV_openM hM; unfold JV.cells at hM; obtain ⟨Al, cl, rfl⟩ := Kd.R_slice hRl; obtain ⟨Af, cf, rfl⟩ := Kd.R_slice hRf; unfold JV.cells; clear hRl hRf; (first | (have hb7 := (hbN.block _ (blk_lt hb7.out)).trans hb7.out; have hc7 := cellAll hb7; have hf7 := frozenAll hb7; replace hb7 := Aside0.mk hb7) | (have hb7 := (hbN.block _ (by simp)).trans (heap_alloc_new _ _); (try rw [show wr.drew.heap.size = wr.heap.size from rfl] at hb7); have hc7 := cellAll hb7; have hf7 := frozenAll hb7; replace hb7 := Aside0.mk hb7) | skip); have hMn := kV.M_lower (base' := wr.heap.size) (by have := hbc.size; first | omega | (simp; omega)) (kV.M_mono (fun k hk => hk.2) (kV.M_bound hM)); replace hMn := Aside0.mk hMn; have hbc : Below wr.heap.size wr wN := (by first | exact hbc.trans (hbN.mono hbc.size) | exact (hbc.alloc hbc.size _).trans (hbN.mono (hbc.alloc hbc.size _).size)); have hzwN := hbc.size; have hSwN := hSof wN (hbc.mono (by omega)); have hSaN := fun o => hSof (wN.alloc o) ((hbc.mono (by omega)).alloc (by omega) o); have hbc8 : Below (w.heap.size + 2) wr wN := hbc.mono (by omega); have hbc9 : w.heap.size + 2 ≤ wC.heap.size := (by omega); have hbc8z : w.heap.size + 2 ≤ wr.heap.size := (by omega); clear hM))
      all_goals (refine at_world (P := fun F => Below wr.heap.size wr F ∧ kV.M F wr.heap.size (fun _ => True) x.value.norm [.int .i64 x.value.norm.kind, .bool x.value.norm.truth, .bool x.value.norm.neg, .string x.value.norm.digits, .int .i64 x.value.norm.exp, .string x.value.norm.text, .slice Al x.value.norm.list.length cl, .slice Af x.value.norm.fields.length cf]) ?_ (fun hF => ?_))
      · exact ⟨hbc.alloc hzwN _, kV.M_mono (fun _ _ => trivial) (Kd.M_below hMn.out ((Below.refl _ _).alloc (Nat.le_refl _) _))⟩
      · have hbxF := (hF.1.block _ (blk_lt hbx.out)).trans hbx.out
        have hcF := cellAll hbxF
        have hfF := frozenAll hbxF
        have hzF : wr.heap.size ≤ _ := hF.1.size
        have hRF := Kd.R_below hR.out hF.1
        have hMF := kV.M_lower (base' := w.heap.size + 3) hws hF.2
        replace hbxF := Aside0.mk hbxF
        replace hRF := Aside0.mk hRF
        replace hMF := Aside0.mk hMF
        have hF1 := Aside0.mk hF.1
        clear hF
        obtain ⟨m2, hm2⟩ : ∃ m2, (insF out nm x.value.norm).length = m2 := ⟨_, rfl⟩
        replace hm2 := Aside0.mk hm2
        have hmo : out.length ≤ 4294967296 := by rw [hm.out]; exact hol2
        replace hmo := Aside0.mk hmo
        go_wp2_with (go_at_call 49; refine (put01_any (w.heap.size + 3) (.slice VA m vc) out nm x.value.norm (.slice Al x.value.norm.list.length cl) (.slice Af x.value.norm.fields.length cf) _ hRF.out hMF.out hrise.out (Nat.le_trans hws hzF) hmo.out).mono ?_; rintro e wP ⟨v1, rfl, hR1, hbP⟩; obtain ⟨A1, c1, hv1⟩ := Kd.R_slice hR1; rw [hm2.out] at hv1; subst hv1; have hbxP := (hbP.block _ (blk_lt hbxF.out)).trans hbxF.out; have hcP := cellAll hbxP; have hfP := frozenAll hbxP; replace hbxP := Aside0.mk hbxP; replace hR1 := Aside0.mk hR1; replace hbP := Aside0.mk hbP)
        go_roundw
        case rel =>
          refine ⟨j + 1, .slice A1 m2 c1, by go_num, by omega, blk_set hbxP.out 7 _, ?_, set_far ((hB.trans (hF1.out.mono (by omega))).trans (hbP.out.mono (by omega))) (by omega) _⟩
          rw [hsn.out]
          exact Kd.R_mono (Kd.R_far (p := ⟨w.heap.size + 1 + 1, 7, none⟩) (ok := fun k => w.heap.size + 3 ≤ k) (Kd.R_mono (Kd.R_bound hR1.out) (fun k hk => hk.2.1)) (fun k hk => by show k ≠ w.heap.size + 1 + 1; omega) _) (fun _ _ => trivial)
        case measure => first | (simp [intOf]; done) | (simp [intOf]; omega)
      · exact ⟨below_nine hbc hzwC _ _ _ _ _ _ _ _ _, kV.M_mono (fun _ _ => trivial) (Kd.M_step hMn.out (fun k hk _ => nine_far (by have := hk.1; simp at this; omega) _ _ _ _ _ _ _ _ _))⟩
      · have hbxF := (hF.1.block _ (blk_lt hbx.out)).trans hbx.out
        have hcF := cellAll hbxF
        have hfF := frozenAll hbxF
        have hzF : wr.heap.size ≤ _ := hF.1.size
        have hRF := Kd.R_below hR.out hF.1
        have hMF := kV.M_lower (base' := w.heap.size + 3) hws hF.2
        replace hbxF := Aside0.mk hbxF
        replace hRF := Aside0.mk hRF
        replace hMF := Aside0.mk hMF
        have hF1 := Aside0.mk hF.1
        clear hF
        obtain ⟨m2, hm2⟩ : ∃ m2, (insF out nm x.value.norm).length = m2 := ⟨_, rfl⟩
        replace hm2 := Aside0.mk hm2
        have hmo : out.length ≤ 4294967296 := by rw [hm.out]; exact hol2
        replace hmo := Aside0.mk hmo
        go_wp2_with (go_at_call 49; refine (put01_any (w.heap.size + 3) (.slice VA m vc) out nm x.value.norm (.slice Al x.value.norm.list.length cl) (.slice Af x.value.norm.fields.length cf) _ hRF.out hMF.out hrise.out (Nat.le_trans hws hzF) hmo.out).mono ?_; rintro e wP ⟨v1, rfl, hR1, hbP⟩; obtain ⟨A1, c1, hv1⟩ := Kd.R_slice hR1; rw [hm2.out] at hv1; subst hv1; have hbxP := (hbP.block _ (blk_lt hbxF.out)).trans hbxF.out; have hcP := cellAll hbxP; have hfP := frozenAll hbxP; replace hbxP := Aside0.mk hbxP; replace hR1 := Aside0.mk hR1; replace hbP := Aside0.mk hbP)
        go_roundw
        case rel =>
          refine ⟨j + 1, .slice A1 m2 c1, by go_num, by omega, blk_set hbxP.out 7 _, ?_, set_far ((hB.trans (hF1.out.mono (by omega))).trans (hbP.out.mono (by omega))) (by omega) _⟩
          rw [hsn.out]
          exact Kd.R_mono (Kd.R_far (p := ⟨w.heap.size + 1 + 1, 7, none⟩) (ok := fun k => w.heap.size + 3 ≤ k) (Kd.R_mono (Kd.R_bound hR1.out) (fun k hk => hk.2.1)) (fun k hk => by show k ≠ w.heap.size + 1 + 1; omega) _) (fun _ _ => trivial)
        case measure => first | (simp [intOf]; done) | (simp [intOf]; omega)
      · exact ⟨below_nine hbc (Nat.le_refl _) _ _ _ _ _ _ _ _ _, kV.M_mono (fun _ _ => trivial) (Kd.M_step hMn.out (fun k hk _ => nine_far (by have := hk.1; omega) _ _ _ _ _ _ _ _ _))⟩
      · have hbxF := (hF.1.block _ (blk_lt hbx.out)).trans hbx.out
        have hcF := cellAll hbxF
        have hfF := frozenAll hbxF
        have hzF : wr.heap.size ≤ _ := hF.1.size
        have hRF := Kd.R_below hR.out hF.1
        have hMF := kV.M_lower (base' := w.heap.size + 3) hws hF.2
        replace hbxF := Aside0.mk hbxF
        replace hRF := Aside0.mk hRF
        replace hMF := Aside0.mk hMF
        have hF1 := Aside0.mk hF.1
        clear hF
        obtain ⟨m2, hm2⟩ : ∃ m2, (insF out nm x.value.norm).length = m2 := ⟨_, rfl⟩
        replace hm2 := Aside0.mk hm2
        have hmo : out.length ≤ 4294967296 := by rw [hm.out]; exact hol2
        replace hmo := Aside0.mk hmo
        go_wp2_with (go_at_call 49; refine (put01_any (w.heap.size + 3) (.slice VA m vc) out nm x.value.norm (.slice Al x.value.norm.list.length cl) (.slice Af x.value.norm.fields.length cf) _ hRF.out hMF.out hrise.out (Nat.le_trans hws hzF) hmo.out).mono ?_; rintro e wP ⟨v1, rfl, hR1, hbP⟩; obtain ⟨A1, c1, hv1⟩ := Kd.R_slice hR1; rw [hm2.out] at hv1; subst hv1; have hbxP := (hbP.block _ (blk_lt hbxF.out)).trans hbxF.out; have hcP := cellAll hbxP; have hfP := frozenAll hbxP; replace hbxP := Aside0.mk hbxP; replace hR1 := Aside0.mk hR1; replace hbP := Aside0.mk hbP)
        go_roundw
        case rel =>
          refine ⟨j + 1, .slice A1 m2 c1, by go_num, by omega, blk_set hbxP.out 7 _, ?_, set_far ((hB.trans (hF1.out.mono (by omega))).trans (hbP.out.mono (by omega))) (by omega) _⟩
          rw [hsn.out]
          exact Kd.R_mono (Kd.R_far (p := ⟨w.heap.size + 1 + 1, 7, none⟩) (ok := fun k => w.heap.size + 3 ≤ k) (Kd.R_mono (Kd.R_bound hR1.out) (fun k hk => hk.2.1)) (fun k hk => by show k ≠ w.heap.size + 1 + 1; omega) _) (fun _ _ => trivial)
        case measure => first | (simp [intOf]; done) | (simp [intOf]; omega)
    · obtain rfl : j = nf := by omega
      have hb1 := (hB.block (w.heap.size + 1) (by omega)).trans f1.out
      have hc1 := cellAll hb1
      have hf1 := frozenAll hb1
      clear hb1 hbf hsnoc
      replace hR := Aside0.mk hR
      replace hbx := Aside0.mk hbx
      have hno : ¬ (j : Int) < (j : Int) := by omega
      go_wp2_with fail
      refine bodyPost_ret (v := .agg #[.int .i64 5, .bool false, .bool false, .string ⟨#[]⟩, .int .i64 0, .string ⟨#[]⟩, .slice none 0 0, .slice VA m vc]) (by simp [results, Tryz.results23, go_sem, hc1]) rfl ⟨[.int .i64 5, .bool false, .bool false, .string ⟨#[]⟩, .int .i64 0, .string ⟨#[]⟩, .slice none 0 0, .slice VA m vc], rfl, ?_, ?_⟩
      · have hfs : fs.take j = fs := by rw [← hlen.out, List.take_length]
        rw [hfs] at hR hm
        have hRo := hR.out
        rw [← hm] at hRo ⊢
        exact kV_mkM (x := .mk 5 false false ⟨#[]⟩ 0 ⟨#[]⟩ [] (JV.normF fs [])) (R_nilV _ _ _) (R_sets (W := W3) (by rw [hs3]; exact hRo) (by omega) (by omega))
      · iterate 8 refine below_set ?_ (by omega)
        exact hBw
end Go.Proofs.YtmfijfcikecglaaGreatDoor
end
section
set_option linter.unusedVariables false
set_option linter.unusedSimpArgs false
namespace Go.Proofs.YtmfijfcikecglaaGreatDoor
open Go Go.RowKit Go.Proofs.YtmfijfcikecglaaGreatDoorW.PrintWords

theorem rnorm_step (x : JV) (hl : ∀ y ∈ x.list, RNormOK y) (hf : ∀ f ∈ x.fields, RNormOK f.value) : RNormOK x := by
  intro w cs hK hwt hin
  obtain ⟨A, c, B, d, rfl, hlc, hCl, hfc, hCf⟩ := kV_open hK
  clear hK
  obtain ⟨k, t, ng, ds, ex, tx, l, f⟩ := x
  simp only [JV.list, JV.fields] at *
  rw [JV.wt] at hwt
  rw [JV.ints] at hin
  obtain ⟨hik, hie, hil, hif⟩ := hin
  unfold JV.cells
  simp only [JV.kind, JV.truth, JV.neg, JV.digits, JV.exp, JV.text]
  rw [JV.norm]
  by_cases h1 : k = 1
  · rw [if_pos h1]; subst h1
    exact rnorm_one w t ng ds tx ex A B _ c _ d
  rw [if_neg h1]
  by_cases h2 : k = 2
  · rw [if_pos h2]; subst h2
    exact rnorm_num w t ng ds tx ex A B _ c _ d (by omega) hie.1 hie.2
  rw [if_neg h2]
  by_cases h3 : k = 3
  · rw [if_pos h3]; subst h3
    exact rnorm_text w t ng ds tx ex A B _ c _ d (by omega)
  rw [if_neg h3]
  by_cases h4 : k = 4
  · rw [if_pos h4]; subst h4
    exact rnorm_list w t ng ds tx ex A B _ c _ d l hCl hlc hl (by omega) hil
  rw [if_neg h4]
  by_cases h5 : k = 5
  · rw [if_pos h5]; subst h5
    exact rnorm_fields w t ng ds tx ex A B _ c _ d f hCf hfc hf (by omega) hif
  rw [if_neg h5]
  exact rnorm_rest w k t ng ds tx ex A B _ c _ d h1 h2 h3 h4 h5
theorem rnorm_all : ∀ (n : Nat) (x : JV), x.wt ≤ n → RNormOK x
  | 0, .mk k t ng ds ex tx l f, h => by rw [JV.wt] at h; omega
  | n + 1, .mk k t ng ds ex tx l f, h => by
    rw [JV.wt] at h
    exact rnorm_step _ (fun y hy => rnorm_all n y (by have := wt_memL hy; simp only [JV.list] at this; omega)) (fun g hg => rnorm_all n _ (by have := wt_memF hg; simp only [JV.fields] at this; omega))
/-- **voyageref02.Norm.** -/
theorem rnorm_any (x : JV) : RNormOK x := rnorm_all _ x (Nat.le_refl _)
end Go.Proofs.YtmfijfcikecglaaGreatDoor
end
section
set_option linter.unusedVariables false
set_option linter.unusedSimpArgs false
namespace Go.Proofs.YtmfijfcikecglaaGreatDoor
open Go Go.RowKit

mutual
/-- A value in its one form. -/
def JV.isN : JV → Prop
  | .mk k t n d e s l f =>
    (k = 0 ∧ t = false ∧ n = false ∧ d = ⟨#[]⟩ ∧ e = 0 ∧ s = ⟨#[]⟩ ∧ l = [] ∧ f = []) ∨
    (k = 1 ∧ n = false ∧ d = ⟨#[]⟩ ∧ e = 0 ∧ s = ⟨#[]⟩ ∧ l = [] ∧ f = []) ∨
    (k = 2 ∧ t = false ∧ NumN n d e ∧ s = ⟨#[]⟩ ∧ l = [] ∧ f = []) ∨
    (k = 3 ∧ t = false ∧ n = false ∧ d = ⟨#[]⟩ ∧ e = 0 ∧ Lib.validD s.data.toList = true ∧ l = [] ∧ f = []) ∨
    (k = 4 ∧ t = false ∧ n = false ∧ d = ⟨#[]⟩ ∧ e = 0 ∧ s = ⟨#[]⟩ ∧ JV.isNL l ∧ f = []) ∨
    (k = 5 ∧ t = false ∧ n = false ∧ d = ⟨#[]⟩ ∧ e = 0 ∧ s = ⟨#[]⟩ ∧ l = [] ∧ JV.isNF f ∧ Rising f)
def JV.isNL : List JV → Prop
  | [] => True
  | x :: xs => x.isN ∧ JV.isNL xs
def JV.isNF : List JF → Prop
  | [] => True
  | .mk nm v :: xs => (Lib.validD nm.data.toList = true ∧ v.isN) ∧ JV.isNF xs
end
theorem isNL_iff : ∀ {l : List JV}, JV.isNL l ↔ ∀ x ∈ l, x.isN
  | [] => by rw [JV.isNL]; simp
  | x :: l => by rw [JV.isNL, isNL_iff (l := l)]; simp
theorem isNF_iff : ∀ {l : List JF}, JV.isNF l ↔ ∀ f ∈ l, Lib.validD f.name.data.toList = true ∧ f.value.isN
  | [] => by rw [JV.isNF]; simp
  | .mk nm v :: l => by rw [JV.isNF, isNF_iff (l := l)]; simp [JF.name, JF.value]
theorem mem_insF {out : List JF} {nm : ByteArray} {v : JV} {f : JF} (h : f ∈ insF out nm v) : f ∈ out ∨ f = .mk nm v := by
  unfold insF at h
  split at h
  · exact .inl h
  · rcases List.mem_append.1 h with h | h
    · exact .inl ((List.takeWhile_sublist _).subset h)
    · rcases List.mem_cons.1 h with h | h
      · exact .inr h
      · exact .inl ((List.dropWhile_sublist _).subset h)
mutual
theorem norm_isN : ∀ (x : JV), x.norm.isN
  | .mk k t n d e s l f => by
    rw [JV.norm]
    split
    · rw [JV.isN]; exact .inr (.inl ⟨rfl, rfl, rfl, rfl, rfl, rfl, rfl⟩)
    · split
      · rw [JV.isN]; exact .inr (.inr (.inl ⟨rfl, rfl, numN_form n d e, rfl, rfl, rfl⟩))
      · split
        · rw [JV.isN]; exact .inr (.inr (.inr (.inl ⟨rfl, rfl, rfl, rfl, rfl, clean_valid s, rfl, rfl⟩)))
        · split
          · rw [JV.isN]; exact .inr (.inr (.inr (.inr (.inl ⟨rfl, rfl, rfl, rfl, rfl, rfl, normL_isN l, rfl⟩))))
          · split
            · rw [JV.isN]; exact .inr (.inr (.inr (.inr (.inr ⟨rfl, rfl, rfl, rfl, rfl, rfl, rfl, normF_isN f [] (by rw [JV.isNF]; trivial), rising_normF f [] rising_nil⟩))))
            · unfold JV.nul; rw [JV.isN]; exact .inl ⟨rfl, rfl, rfl, rfl, rfl, rfl, rfl, rfl⟩
theorem normL_isN : ∀ (l : List JV), JV.isNL (JV.normL l)
  | [] => by rw [JV.normL, JV.isNL]; trivial
  | x :: l => by rw [JV.normL, JV.isNL]; exact ⟨norm_isN x, normL_isN l⟩
theorem normF_isN : ∀ (l : List JF) (out : List JF), JV.isNF out → JV.isNF (JV.normF l out)
  | [], out, h => by rw [JV.normF]; exact h
  | .mk nm v :: l, out, h => by
    rw [JV.normF]
    refine normF_isN l _ (isNF_iff.2 fun f hf => ?_)
    rcases mem_insF hf with hf | rfl
    · exact isNF_iff.1 h f hf
    · exact ⟨clean_valid nm, norm_isN v⟩
end
theorem while_all {α : Type} (p : α → Bool) : ∀ (l : List α), (∀ x ∈ l, p x = true) → l.takeWhile p = l ∧ l.dropWhile p = []
  | [], _ => ⟨rfl, rfl⟩
  | a :: l, h => by
    obtain ⟨h1, h2⟩ := while_all p l (fun x hx => h x (.tail _ hx))
    have ha := h a (.head _)
    rw [List.takeWhile_cons, List.dropWhile_cons, ha, h2]
    simp [h1]
/-- A name greater than all goes to the end. -/
theorem insF_end {out : List JF} {nm : ByteArray} {v : JV} (h : ∀ f ∈ out, lessB f.name nm = true) : insF out nm v = out ++ [.mk nm v] := by
  unfold insF
  have h1 : out.any (fun f => sameB f.name nm) = false := by
    rw [List.any_eq_false]
    intro f hf hs
    have e := sameB_iff.1 hs
    have := h f hf
    rw [e, lessB_irrefl] at this
    cases this
  obtain ⟨h2, h3⟩ := while_all (fun f : JF => lessB f.name nm) out h
  rw [h1, h2, h3]
  rfl
mutual
/-- The one form's one form is itself. -/
theorem norm_of_isN : ∀ (x : JV), x.isN → x.norm = x
  | .mk k t n d e s l f, h => by
    rw [JV.isN] at h
    rcases h with ⟨rfl, rfl, rfl, rfl, rfl, rfl, rfl, rfl⟩ | ⟨rfl, rfl, rfl, rfl, rfl, rfl, rfl⟩ | ⟨rfl, rfl, hN, rfl, rfl, rfl⟩ | ⟨rfl, rfl, rfl, rfl, rfl, hv, rfl, rfl⟩ | ⟨rfl, rfl, rfl, rfl, rfl, rfl, hl, rfl⟩ | ⟨rfl, rfl, rfl, rfl, rfl, rfl, rfl, hf, hr⟩
    · rw [JV.norm]; rfl
    · rw [JV.norm]; rfl
    · rw [JV.norm]; unfold decNorm; rw [form_numN hN]; rfl
    · rw [JV.norm, clean_of_valid hv]; rfl
    · rw [JV.norm, normL_of_isN l hl]; rfl
    · rw [JV.norm, normF_of_isN f [] hf (by simpa using hr)]; rfl
theorem normL_of_isN : ∀ (l : List JV), JV.isNL l → JV.normL l = l
  | [], _ => by rw [JV.normL]
  | x :: l, h => by
    rw [JV.isNL] at h
    rw [JV.normL, norm_of_isN x h.1, normL_of_isN l h.2]
theorem normF_of_isN : ∀ (l : List JF) (out : List JF), JV.isNF l → Rising (out ++ l) → JV.normF l out = out ++ l
  | [], out, _, _ => by rw [JV.normF, List.append_nil]
  | .mk nm v :: l, out, h, hr => by
    rw [JV.isNF] at h
    rw [JV.normF, clean_of_valid h.1.1, norm_of_isN v h.1.2, insF_end (fun f hf => ?_), normF_of_isN l _ h.2 (by rw [List.append_assoc]; exact hr), List.append_assoc]
    · rfl
    · exact (List.pairwise_append.1 hr).2.2 f hf (.mk nm v) (.head _)
end
theorem norm_norm (x : JV) : x.norm.norm = x.norm := norm_of_isN _ (norm_isN x)

/-! ### words and gaps -/
theorem Has.take {s : ByteArray} {j : Nat} {q : List UInt8} (h : Has s j q) : (s.data.toList.drop j).take q.length = q := by
  have h2 := Has.part s j q.length h.1
  apply List.ext_getElem?
  intro k
  by_cases hk : k < q.length
  · have hl : k < ((s.data.toList.drop j).take q.length).length := by have h3 := h.1; have h5 : s.data.toList.length = s.size := Array.length_toList; rw [List.length_take, List.length_drop, h5]; omega
    have a := h2.2 k _ (List.getElem?_eq_getElem hl)
    have b := h.2 k _ (List.getElem?_eq_getElem hk)
    rw [List.getElem?_eq_getElem hl, List.getElem?_eq_getElem hk]
    congr 1
    exact UInt8.toNat_inj.1 (a.symm.trans b)
  · rw [List.getElem?_eq_none (by rw [List.length_take]; omega), List.getElem?_eq_none (by omega)]
theorem extract_drop (s : ByteArray) (i : Nat) : (s.extract i s.size).data.toList = s.data.toList.drop i := by
  have h5 : s.data.toList.length = s.size := Array.length_toList
  rw [ByteArray.data_extract, Array.toList_extract, List.extract_eq_take_drop, List.take_of_length_le (by rw [List.length_drop, h5]; omega)]
theorem pre_yes {s : ByteArray} {i : Nat} {p : List UInt8} (h : Has s i p) : preAt s i p = true := by
  unfold preAt Lib.hasPrefix
  rw [extract_drop, List.isPrefixOf_iff_prefix]
  refine ⟨(s.data.toList.drop i).drop p.length, ?_⟩
  have := List.take_append_drop p.length (s.data.toList.drop i)
  rw [h.take] at this
  exact this
theorem pre_no {s : ByteArray} {i : Nat} {c : UInt8} {p : List UInt8} (h : byteAt s i ≠ c.toNat) : preAt s i (c :: p) = false := by
  cases hp : preAt s i (c :: p) with
  | false => rfl
  | true =>
    exfalso
    unfold preAt Lib.hasPrefix at hp
    rw [extract_drop, List.isPrefixOf_iff_prefix] at hp
    obtain ⟨r, hr⟩ := hp
    have hl : i < s.size := by
      have h5 : s.data.toList.length = s.size := Array.length_toList
      have := congrArg List.length hr
      simp only [List.length_append, List.length_cons, List.length_drop, h5] at this
      omega
    have h2 := Has.part s i 1 (by omega)
    rw [← hr] at h2
    exact h h2.head.1
theorem gap_stay {s : ByteArray} {i : Nat} (h : isGap (byteAt s i) = false) : gapTo s i = i := by
  rw [gapTo, if_neg (fun hx => by rw [h] at hx; exact absurd hx.2 (by simp))]
/-- A byte with which a value may begin. -/
def opens (n : Nat) : Prop := n = 110 ∨ n = 116 ∨ n = 102 ∨ n = 45 ∨ (48 ≤ n ∧ n ≤ 57) ∨ n = 34 ∨ n = 91 ∨ n = 123
theorem opens_gap {n : Nat} (h : opens n) : isGap n = false := by
  unfold opens at h
  unfold isGap
  simp only [Bool.or_eq_false_iff, beq_eq_false_iff_ne]
  omega
theorem put_first : ∀ (x : JV), x.isN → ∃ c q, x.put = c :: q ∧ opens c.toNat
  | .mk k t n d e s l f, h => by
    rw [JV.isN] at h
    unfold opens
    rcases h with ⟨rfl, rfl, rfl, rfl, rfl, rfl, rfl, rfl⟩ | ⟨rfl, rfl, rfl, rfl, rfl, rfl, rfl⟩ | ⟨rfl, rfl, hN, rfl, rfl, rfl⟩ | ⟨rfl, rfl, rfl, rfl, rfl, hv, rfl, rfl⟩ | ⟨rfl, rfl, rfl, rfl, rfl, rfl, hl, rfl⟩ | ⟨rfl, rfl, rfl, rfl, rfl, rfl, rfl, hf, hr⟩
    · rw [JV.put]; exact ⟨110, _, rfl, by decide⟩
    · rw [JV.put]
      cases t with
      | true => exact ⟨116, _, rfl, by decide⟩
      | false => exact ⟨102, _, rfl, by decide⟩
    · rw [JV.put]
      obtain ⟨c, q, e, hc⟩ := text_first hN
      exact ⟨c, q, e, by omega⟩
    · rw [JV.put]; exact ⟨34, _, rfl, by decide⟩
    · rw [JV.put]
      cases l with
      | nil => exact ⟨91, [93], rfl, by decide⟩
      | cons x l => exact ⟨91, _, rfl, by decide⟩
    · rw [JV.put]
      cases f with
      | nil => exact ⟨123, [125], rfl, by decide⟩
      | cons x l =>
        obtain ⟨nm, v⟩ := x
        exact ⟨123, _, rfl, by decide⟩
end Go.Proofs.YtmfijfcikecglaaGreatDoor
end
section
set_option linter.unusedVariables false
set_option linter.unusedSimpArgs false
namespace Go.Proofs.YtmfijfcikecglaaGreatDoor
open Go Go.RowKit

/-- A value is read back, wherever it is told, if nothing goes on behind it that goes on a number. -/
def Back (x : JV) : Prop := ∀ (D : Nat) (s : ByteArray) (i : Nat), x.deep ≤ D → Has s i x.put → isNum (byteAt s (i + x.put.length)) = false → valF s D i = .ok x (i + x.put.length)

theorem quoted_head {s t : ByteArray} {p : Nat} (h : Has s p (quoted t)) : byteAt s p = 34 := by
  unfold quoted at h
  exact h.head.1
theorem valF_with (s : ByteArray) (D i : Nat) : ∃ lst obj, valF s D i = valWith s lst obj i := by
  cases D with
  | zero => exact ⟨_, _, by rw [valF]⟩
  | succ D => exact ⟨_, _, by rw [valF]⟩

/-- A list's elements. -/
theorem sevL_back {s : ByteArray} {D : Nat} : ∀ (xs : List JV) (x : JV) (acc : List JV) (n p : Nat), (∀ y ∈ x :: xs, y.isN ∧ y.deep ≤ D ∧ Back y) → Has s p (x.put ++ (JV.putL 44 xs ++ [93])) → s.size < p + n →
    sevF s 93 (itemL (valF s D)) n p acc = .ok (acc ++ x :: xs) (p + (x.put ++ (JV.putL 44 xs ++ [93])).length)
  | xs, x, acc, n, p, hy, h, hn => by
    have hle := h.1
    obtain ⟨n, rfl⟩ : ∃ m, n = m + 1 := ⟨n - 1, by omega⟩
    obtain ⟨h1, h2, h3⟩ := hy x (.head _)
    have hR := h.right
    have hnext : ∃ c q, JV.putL 44 xs ++ [93] = c :: q ∧ ((xs = [] ∧ c = 93) ∨ (xs ≠ [] ∧ c = 44)) := by
      cases xs with
      | nil => rw [JV.putL]; exact ⟨93, [], rfl, .inl ⟨rfl, rfl⟩⟩
      | cons y ys => rw [JV.putL]; exact ⟨44, _, rfl, .inr ⟨by simp, rfl⟩⟩
    obtain ⟨c, q, ec, hc⟩ := hnext
    rw [ec] at hR
    have hb := hR.head.1
    have hnum : isNum (byteAt s (p + x.put.length)) = false ∧ isGap (byteAt s (p + x.put.length)) = false := by
      rw [hb]
      rcases hc with ⟨_, rfl⟩ | ⟨_, rfl⟩ <;> exact ⟨rfl, rfl⟩
    have hv := h3 D s p h2 h.left hnum.1
    have hi : itemL (valF s D) p acc = .ok (acc ++ [x]) (p + x.put.length) := by
      unfold itemL
      rw [hv]
    rw [sevF, hi]
    simp only
    rw [gap_stay hnum.2]
    rcases hc with ⟨rfl, rfl⟩ | ⟨hne, rfl⟩
    · have hb2 : byteAt s (p + x.put.length) = 93 := hb
      rw [if_neg (by omega), if_pos hb2]
      rw [JV.putL]
      simp only [List.nil_append, List.length_append, List.length_cons, List.length_nil]
      rfl
    · have hb2 : byteAt s (p + x.put.length) = 44 := hb
      rw [if_pos hb2]
      cases xs with
      | nil => exact absurd rfl hne
      | cons y ys =>
        rw [JV.putL] at ec
        have eq : y.put ++ (JV.putL 44 ys ++ [93]) = q := by
          simp only [List.cons_append] at ec
          injection ec with _ ec
          rw [← ec, List.append_assoc]
        have hT := hR.tail
        rw [← eq] at hT
        obtain ⟨c2, q2, e2, ho⟩ := put_first y (hy y (.tail _ (.head _))).1
        have hf : isGap (byteAt s (p + x.put.length + 1)) = false := by
          have := hT
          rw [e2] at this
          rw [this.head.1]
          exact opens_gap ho
        rw [gap_stay hf, sevL_back ys y (acc ++ [x]) n _ (fun z hz => hy z (.tail _ hz)) hT (by omega)]
        rw [List.append_assoc, JV.putL]
        congr 1
        simp only [List.length_append, List.length_cons, List.length_nil]
        omega
theorem hasName_no {acc : List JF} {nm : ByteArray} (h : ∀ f ∈ acc, lessB f.name nm = true) : hasName acc nm = false := by
  unfold hasName
  rw [List.any_eq_false]
  intro f hf hs
  have e : f.name = nm := by simpa using hs
  have := h f hf
  rw [e, lessB_irrefl] at this
  cases this
/-- An object's fields. -/
theorem sevF_back {s : ByteArray} {D : Nat} : ∀ (xs : List JF) (nm : ByteArray) (v : JV) (acc : List JF) (n p : Nat), (∀ f ∈ JF.mk nm v :: xs, Lib.validD f.name.data.toList = true ∧ f.value.isN ∧ f.value.deep ≤ D ∧ Back f.value) → Rising (acc ++ JF.mk nm v :: xs) →
    Has s p (quoted nm ++ (58 :: (v.put ++ (JV.putF 44 xs ++ [125])))) → s.size < p + n →
    sevF s 125 (fieldAt s (valF s D)) n p acc = .ok (acc ++ JF.mk nm v :: xs) (p + (quoted nm ++ (58 :: (v.put ++ (JV.putF 44 xs ++ [125])))).length)
  | xs, nm, v, acc, n, p, hy, hr, h, hn => by
    have hle := h.1
    obtain ⟨n, rfl⟩ : ∃ m, n = m + 1 := ⟨n - 1, by omega⟩
    obtain ⟨h0, h1, h2, h3⟩ := hy (.mk nm v) (.head _)
    simp only [JF.name, JF.value] at h0 h1 h2 h3
    have hR := h.right
    have hQ := h.left
    have hq0 : byteAt s p = 34 := by
      have := hQ
      unfold quoted at this
      exact this.head.1
    have htx := text_back h0 hQ
    have hcol : byteAt s (p + (quoted nm).length) = 58 := hR.head.1
    have hV := hR.tail
    obtain ⟨c2, q2, e2, ho⟩ := put_first v h1
    have hf : isGap (byteAt s (p + (quoted nm).length + 1)) = false := by
      have := hV.left
      rw [e2] at this
      rw [this.head.1]
      exact opens_gap ho
    have hnext : ∃ c q, JV.putF 44 xs ++ [125] = c :: q ∧ ((xs = [] ∧ c = 125) ∨ (xs ≠ [] ∧ c = 44)) := by
      cases xs with
      | nil => rw [JV.putF]; exact ⟨125, [], rfl, .inl ⟨rfl, rfl⟩⟩
      | cons y ys => obtain ⟨n2, v2⟩ := y; rw [JV.putF]; exact ⟨44, _, rfl, .inr ⟨by simp, rfl⟩⟩
    obtain ⟨c, q, ec, hc⟩ := hnext
    have hE := hV.right
    rw [ec] at hE
    have hb := hE.head.1
    have hnum : isNum (byteAt s (p + (quoted nm).length + 1 + v.put.length)) = false ∧ isGap (byteAt s (p + (quoted nm).length + 1 + v.put.length)) = false := by
      rw [hb]
      rcases hc with ⟨_, rfl⟩ | ⟨_, rfl⟩ <;> exact ⟨rfl, rfl⟩
    have hv := h3 D s _ h2 hV.left hnum.1
    have hlt : ∀ f ∈ acc, lessB f.name nm = true := fun f hf => (List.pairwise_append.1 hr).2.2 f hf (.mk nm v) (.head _)
    have hi : fieldAt s (valF s D) p acc = .ok (acc ++ [JF.mk nm v]) (p + (quoted nm).length + 1 + v.put.length) := by
      unfold fieldAt
      rw [if_pos hq0, htx]
      simp only
      rw [show (⟨nm.data.toList.toArray⟩ : ByteArray) = nm by simp, hasName_no hlt, gap_stay (by rw [hcol]; rfl), if_neg (by simp), if_pos hcol, gap_stay hf, hv]
      rfl
    rw [sevF, hi]
    simp only
    rw [gap_stay hnum.2]
    rcases hc with ⟨rfl, rfl⟩ | ⟨hne, rfl⟩
    · have hb2 : byteAt s (p + (quoted nm).length + 1 + v.put.length) = 125 := hb
      rw [if_neg (by omega), if_pos hb2]
      rw [JV.putF]
      congr 1
      simp only [List.nil_append, List.length_append, List.length_cons, List.length_nil]
      omega
    · have hb2 : byteAt s (p + (quoted nm).length + 1 + v.put.length) = 44 := hb
      rw [if_pos hb2]
      cases xs with
      | nil => exact absurd rfl hne
      | cons y ys =>
        obtain ⟨n2, v2⟩ := y
        rw [JV.putF] at ec
        have eq : quoted n2 ++ (58 :: (v2.put ++ (JV.putF 44 ys ++ [125]))) = q := by
          simp only [List.cons_append] at ec
          injection ec with _ ec
          rw [← ec]
          simp
        have hT := hE.tail
        rw [← eq] at hT
        have hg : isGap (byteAt s (p + (quoted nm).length + 1 + v.put.length + 1)) = false := by
          rw [quoted_head hT.left]
          rfl
        rw [gap_stay hg, sevF_back ys n2 v2 (acc ++ [JF.mk nm v]) n _ (fun z hz => hy z (.tail _ hz)) (by rw [List.append_assoc]; exact hr) hT (by omega)]
        rw [List.append_assoc, JV.putF]
        congr 1
        simp only [List.length_append, List.length_cons, List.length_nil]
        omega
theorem deepL_mem : ∀ {l : List JV} {y : JV}, y ∈ l → y.deep ≤ JV.deepL l
  | x :: l, y, h => by
    rw [JV.deepL]
    rcases List.mem_cons.1 h with rfl | h
    · omega
    · have := deepL_mem h; omega
theorem deepF_mem : ∀ {l : List JF} {f : JF}, f ∈ l → f.value.deep ≤ JV.deepF l
  | .mk nm v :: l, f, h => by
    rw [JV.deepF]
    rcases List.mem_cons.1 h with rfl | h
    · simp only [JF.value]; omega
    · have := deepF_mem h; omega
theorem back_step (x : JV) (hx : x.isN) (hl : ∀ y ∈ x.list, Back y) (hf : ∀ f ∈ x.fields, Back f.value) : Back x := by
  intro D s i hD h he
  obtain ⟨k, t, n, d, e, tx, l, f⟩ := x
  simp only [JV.list, JV.fields] at hl hf
  rw [JV.isN] at hx
  rcases hx with ⟨rfl, rfl, rfl, rfl, rfl, rfl, rfl, rfl⟩ | ⟨rfl, rfl, rfl, rfl, rfl, rfl, rfl⟩ | ⟨rfl, rfl, hN, rfl, rfl, rfl⟩ | ⟨rfl, rfl, rfl, rfl, rfl, hv, rfl, rfl⟩ | ⟨rfl, rfl, rfl, rfl, rfl, rfl, hL, rfl⟩ | ⟨rfl, rfl, rfl, rfl, rfl, rfl, rfl, hF, hr⟩
  · obtain ⟨lst, obj, ev⟩ := valF_with s D i
    rw [ev]
    have hp : (JV.mk 0 false false ⟨#[]⟩ 0 ⟨#[]⟩ [] []).put = [110, 117, 108, 108] := by rw [JV.put]; rfl
    rw [hp] at h ⊢
    have hb : byteAt s i = 110 := h.head.1
    unfold valWith litAt
    rw [if_neg (by omega), if_neg (by omega), if_neg (by omega), if_neg (by omega), pre_yes h, if_pos rfl]
    rfl
  · obtain ⟨lst, obj, ev⟩ := valF_with s D i
    rw [ev]
    cases t with
    | true =>
      have hp : (JV.mk 1 true false ⟨#[]⟩ 0 ⟨#[]⟩ [] []).put = [116, 114, 117, 101] := by rw [JV.put]; rfl
      rw [hp] at h ⊢
      have hb : byteAt s i = 116 := h.head.1
      unfold valWith litAt
      rw [if_neg (by omega), if_neg (by omega), if_neg (by omega), if_neg (by omega), pre_no (by rw [hb]; decide), if_neg (by simp), pre_yes h, if_pos rfl]
      rfl
    | false =>
      have hp : (JV.mk 1 false false ⟨#[]⟩ 0 ⟨#[]⟩ [] []).put = [102, 97, 108, 115, 101] := by rw [JV.put]; rfl
      rw [hp] at h ⊢
      have hb : byteAt s i = 102 := h.head.1
      unfold valWith litAt
      rw [if_neg (by omega), if_neg (by omega), if_neg (by omega), if_neg (by omega), pre_no (by rw [hb]; decide), if_neg (by simp), pre_no (by rw [hb]; decide), if_neg (by simp), pre_yes h, if_pos rfl]
      rfl
  · obtain ⟨lst, obj, ev⟩ := valF_with s D i
    rw [ev]
    have hp : (JV.mk 2 false n d e ⟨#[]⟩ [] []).put = decText n d e := by rw [JV.put]; rfl
    rw [hp] at h he ⊢
    obtain ⟨c, q, ec, hc⟩ := text_first hN
    have hb : byteAt s i = c.toNat := by have := h; rw [ec] at this; exact this.head.1
    unfold valWith
    rw [if_neg (by omega), if_neg (by omega), if_neg (by omega), if_pos (by omega)]
    exact number_back hN h he
  · obtain ⟨lst, obj, ev⟩ := valF_with s D i
    rw [ev]
    have hp : (JV.mk 3 false false ⟨#[]⟩ 0 tx [] []).put = quoted tx := by rw [JV.put]; rfl
    rw [hp] at h he ⊢
    have hb : byteAt s i = 34 := by have := h; unfold quoted at this; exact this.head.1
    unfold valWith
    rw [if_neg (by omega), if_neg (by omega), if_pos hb]
    unfold textVal
    rw [text_back hv h]
  · have hd2 : (JV.mk 4 false false ⟨#[]⟩ 0 ⟨#[]⟩ l []).deep = 1 + JV.deepL l := by rw [JV.deep]; rfl
    rw [hd2] at hD
    obtain ⟨D, rfl⟩ : ∃ m, D = m + 1 := ⟨D - 1, by omega⟩
    rw [valF]
    have hp : (JV.mk 4 false false ⟨#[]⟩ 0 ⟨#[]⟩ l []).put = JV.putL 91 l ++ (if l.length = 0 then [91, 93] else [93]) := by rw [JV.put]; rfl
    rw [hp] at h he ⊢
    cases l with
    | nil =>
      rw [JV.putL] at h he ⊢
      have hb : byteAt s i = 91 := h.head.1
      have hb2 : byteAt s (i + 1) = 93 := h.tail.head.1
      unfold valWith
      rw [if_pos hb]
      unfold sevAt
      rw [gap_stay (by rw [hb2]; rfl), if_pos hb2]
      rfl
    | cons x xs =>
      rw [JV.putL, if_neg (by simp)] at h he ⊢
      rw [List.cons_append, List.append_assoc] at h he ⊢
      have hb : byteAt s i = 91 := h.head.1
      obtain ⟨c2, q2, e2, ho⟩ := put_first x (isNL_iff.1 hL x (.head _))
      have hb2 : byteAt s (i + 1) = c2.toNat := by have := h.tail.left; rw [e2] at this; exact this.head.1
      have hle := h.1
      unfold valWith
      rw [if_pos hb]
      unfold sevAt
      rw [gap_stay (by rw [hb2]; exact opens_gap ho), if_neg (by rw [hb2]; unfold opens at ho; omega)]
      rw [sevL_back xs x [] (s.size + 1) (i + 1) (fun y hy => ⟨isNL_iff.1 hL y hy, by have := deepL_mem hy; omega, hl y hy⟩) h.tail (by omega)]
      show PR.ok _ _ = PR.ok _ _
      congr 1
      simp only [List.length_cons]
      omega
  · have hd2 : (JV.mk 5 false false ⟨#[]⟩ 0 ⟨#[]⟩ [] f).deep = 1 + JV.deepF f := by rw [JV.deep]; rfl
    rw [hd2] at hD
    obtain ⟨D, rfl⟩ : ∃ m, D = m + 1 := ⟨D - 1, by omega⟩
    rw [valF]
    have hp : (JV.mk 5 false false ⟨#[]⟩ 0 ⟨#[]⟩ [] f).put = JV.putF 123 f ++ (if f.length = 0 then [123, 125] else [125]) := by rw [JV.put]; rfl
    rw [hp] at h he ⊢
    cases f with
    | nil =>
      rw [JV.putF] at h he ⊢
      have hb : byteAt s i = 123 := h.head.1
      have hb2 : byteAt s (i + 1) = 125 := h.tail.head.1
      unfold valWith
      rw [if_neg (by omega), if_pos hb]
      unfold sevAt
      rw [gap_stay (by rw [hb2]; rfl), if_pos hb2]
      rfl
    | cons x xs =>
      obtain ⟨nm, v⟩ := x
      rw [JV.putF, if_neg (by simp)] at h he ⊢
      rw [List.cons_append, List.append_assoc, List.cons_append, List.append_assoc] at h he ⊢
      have hb : byteAt s i = 123 := h.head.1
      have hb2 : byteAt s (i + 1) = 34 := by have := h.tail.left; unfold quoted at this; exact this.head.1
      have hle := h.1
      unfold valWith
      rw [if_neg (by omega), if_pos hb]
      unfold sevAt
      rw [gap_stay (by rw [hb2]; rfl), if_neg (by omega)]
      rw [sevF_back xs nm v [] (s.size + 1) (i + 1) (fun g hg => ⟨(isNF_iff.1 hF g hg).1, (isNF_iff.1 hF g hg).2, by have := deepF_mem hg; omega, hf g hg⟩) hr h.tail (by omega)]
      show PR.ok _ _ = PR.ok _ _
      congr 1
      simp only [List.length_cons]
      omega
theorem back_all : ∀ (n : Nat) (x : JV), x.wt ≤ n → x.isN → Back x
  | 0, .mk k t n d e s l f, h, _ => by rw [JV.wt] at h; omega
  | m + 1, .mk k t n d e s l f, h, hx => by
    rw [JV.wt] at h
    have hm : (∀ y ∈ l, y.isN) ∧ (∀ g ∈ f, g.value.isN) := by
      rw [JV.isN] at hx
      rcases hx with ⟨_, _, _, _, _, _, rfl, rfl⟩ | ⟨_, _, _, _, _, rfl, rfl⟩ | ⟨_, _, _, _, rfl, rfl⟩ | ⟨_, _, _, _, _, _, rfl, rfl⟩ | ⟨_, _, _, _, _, _, hL, rfl⟩ | ⟨_, _, _, _, _, _, rfl, hF, _⟩
      · exact ⟨(fun y h => nomatch h), (fun y h => nomatch h)⟩
      · exact ⟨(fun y h => nomatch h), (fun y h => nomatch h)⟩
      · exact ⟨(fun y h => nomatch h), (fun y h => nomatch h)⟩
      · exact ⟨(fun y h => nomatch h), (fun y h => nomatch h)⟩
      · exact ⟨isNL_iff.1 hL, (fun y h => nomatch h)⟩
      · exact ⟨(fun y h => nomatch h), fun g hg => (isNF_iff.1 hF g hg).2⟩
    exact back_step _ hx (fun y hy => back_all m y (by have := wt_memL hy; simp only [JV.list] at this; omega) (hm.1 y hy)) (fun g hg => back_all m _ (by have := wt_memF hg; simp only [JV.fields] at this; omega) (hm.2 g hg))
/-- **There and back.** -/
theorem back_any (x : JV) (hx : x.isN) : Back x := back_all _ x (Nat.le_refl _) hx
/-- What is told and nothing else is read as it. -/
theorem back_whole (x : JV) (hx : x.isN) {D : Nat} (hD : x.deep ≤ D) : valF ⟨x.put.toArray⟩ D 0 = .ok x x.put.length := by
  have hall : Has ⟨x.put.toArray⟩ 0 x.put := by have := Has.all ⟨x.put.toArray⟩; simpa using this
  have := back_any x hx D ⟨x.put.toArray⟩ 0 hD hall (by rw [byteAt_end (by rw [size_mk]; omega)]; rfl)
  rw [Nat.zero_add] at this
  exact this
/-- Two values in their one form that are told alike are one. -/
theorem put_inj {x y : JV} (hx : x.isN) (hy : y.isN) (h : x.put = y.put) : x = y := by
  have h1 := back_whole x hx (D := max x.deep y.deep) (by omega)
  have h2 := back_whole y hy (D := max x.deep y.deep) (by omega)
  rw [h, h2] at h1
  injection h1 with h1
  exact h1.symm
theorem print_inj {x y : JV} : x.print = y.print ↔ x.norm = y.norm := by
  unfold JV.print
  exact ⟨put_inj (norm_isN x) (norm_isN y), fun h => by rw [h]⟩
end Go.Proofs.YtmfijfcikecglaaGreatDoor
end
section
set_option linter.unusedVariables false
set_option linter.unusedSimpArgs false
namespace Go.Proofs.YtmfijfcikecglaaGreatDoor
open Go Go.RowKit Go.Proofs.YtmfijfcikecglaaGreatDoorW.PrintWords

end Go.Proofs.YtmfijfcikecglaaGreatDoor
end
section
set_option linter.unusedVariables false
set_option linter.unusedSimpArgs false
namespace Go.Proofs.YtmfijfcikecglaaGreatDoor
open Go Go.RowKit

end Go.Proofs.YtmfijfcikecglaaGreatDoor
end
section
set_option linter.unusedVariables false
set_option linter.unusedSimpArgs false
namespace Go.Proofs.YtmfijfcikecglaaGreatDoor
open Go Go.RowKit

end Go.Proofs.YtmfijfcikecglaaGreatDoor
end
section
set_option linter.unusedVariables false
set_option linter.unusedSimpArgs false
namespace Go.Proofs.YtmfijfcikecglaaGreatDoor
open Go Go.RowKit

def More (v1 v2 : Nat → PR JV) : Prop := ∀ i x j, v1 i = .ok x j → v2 i = .ok x j
end Go.Proofs.YtmfijfcikecglaaGreatDoor
end
section
set_option linter.unusedVariables false
set_option linter.unusedSimpArgs false
namespace Go.Proofs.YtmfijfcikecglaaGreatDoor
open Go Go.RowKit

end Go.Proofs.YtmfijfcikecglaaGreatDoor
end
section
set_option linter.unusedVariables false
set_option linter.unusedSimpArgs false
namespace Go.Proofs.YtmfijfcikecglaaGreatDoor
open Go Go.RowKit

/-- A reading ends, or fails, within the text. -/
def PR.inn {α : Type} (n : Nat) : PR α → Prop
  | .ok _ j => j ≤ n
  | .no k _ => k ≤ n
end Go.Proofs.YtmfijfcikecglaaGreatDoor
end
section
set_option linter.unusedVariables false
set_option linter.unusedSimpArgs false
namespace Go.Proofs.YtmfijfcikecglaaGreatDoor
open Go Go.RowKit Go.Proofs.YtmfijfcikecglaaGreatDoorW.PrintWords

theorem like_same (x : JV) (w : World) (cs cs' : List Value) (hK : kV.K w x cs) (hK' : kV.K w x cs') : Calls Tryz.prog 22 #[.agg cs.toArray, .agg cs'.toArray] w fun e w' => e = .returned (.bool true) ∧ Below w.heap.size w w' := by
  refine (like_any x x w cs cs' hK hK').mono ?_
  rintro e w' ⟨b, rfl, h, hb⟩
  rw [h.2 rfl]
  exact ⟨rfl, hb⟩
end Go.Proofs.YtmfijfcikecglaaGreatDoor
end
