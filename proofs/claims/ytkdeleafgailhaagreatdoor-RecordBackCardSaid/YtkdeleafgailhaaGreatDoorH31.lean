/- voyageref03.Many, Beyond; voyagelaw13.beyond: what is not beyond has a weight of at most 2^22. voyageref02.Same tells whether two values have one form. record.Decode, whole; Encode and Decode as the laws call them; voyageref13.Same of one event twice. voyageref13.Same of one event, read twice. voyagelaw13.awake: the two constants. voyagelaw13.awake: true. voyagelaw02.place at a fault. voyagelaw13.RecordBack. -/
import Derived.Test.YtkdeleafgailhaaGreatDoorH20
import Derived.Test.YtkdeleafgailhaaGreatDoorH28
import Derived.Test.YtkdeleafgailhaaGreatDoorH30
import Derived.LaidEql
section
set_option linter.unusedVariables false
set_option linter.unusedSimpArgs false
namespace Go.Proofs.YtkdeleafgailhaaGreatDoor
open Go Go.RowKit Go.Proofs.YtkdeleafgailhaaGreatDoorW.PrintWords

def RManyOK (x : JV) : Prop := ∀ (w : World) (cs : List Value) (n a : Nat), kV.K w x cs → x.fits → n ≤ 140737492549632 → a ≤ 4097 →
  Calls Tryz.prog 76 #[.agg cs.toArray, .int .i64 n, .int .i64 a] w fun e w' => ∃ r : Nat, e = .returned (.int .i64 r) ∧ r ≤ 1125899906842624 ∧ (r ≤ 4194304 → n + x.wt ≤ r) ∧ Below w.heap.size w w'

theorem rmany_stop (w : World) (k : Int) (t ng : Bool) (ds tx : ByteArray) (ex : Int) (A B : Option Addr) (nl c nf d : Nat) (n a : Nat) (ha : ¬ a ≤ 4096) :
    Calls Tryz.prog 76 #[.agg #[.int .i64 k, .bool t, .bool ng, .string ds, .int .i64 ex, .string tx, .slice A nl c, .slice B nf d], .int .i64 n, .int .i64 a] w fun e w' => e = .returned (.int .i64 4194305) ∧ Below w.heap.size w w' := by
  have hb0 := (Below.refl _ w).alloc (Nat.le_refl _) (.cells #[.int .i64 k, .bool t, .bool ng, .string ds, .int .i64 ex, .string tx, .slice A nl c, .slice B nf d] 27)
  have ha2 : (4096 : Int) < (a : Int) := by omega
  go_enter Tryz.func76, Tryz.ntmps76
  go_wp2_with fail
  go_ret
  exact ⟨rfl, hb0⟩

set_option maxRecDepth 100000 in
set_option maxHeartbeats 8000000 in
theorem rmany_go (w : World) (k : Int) (t ng : Bool) (ds tx : ByteArray) (ex : Int) (A B : Option Addr) (c d : Nat) (n a : Nat) (l : List JV) (f : List JF) (hn : n ≤ 140737492549632) (ha : a ≤ 4096)
    (hcl : l.length ≤ c) (hCl : kV.C w A l.length l) (hcf : f.length ≤ d) (hCf : kF.C w B f.length f) (hds : ds.size ≤ 140737488355328) (htx : tx.size ≤ 140737488355328) (hll : l.length ≤ 140737488355328) (hfl : f.length ≤ 140737488355328)
    (hl : ∀ y ∈ l, RManyOK y) (hf : ∀ g ∈ f, RManyOK g.value) (hfL : JV.fitsL l) (hfF : JV.fitsF f) :
    Calls Tryz.prog 76 #[.agg #[.int .i64 k, .bool t, .bool ng, .string ds, .int .i64 ex, .string tx, .slice A l.length c, .slice B f.length d], .int .i64 n, .int .i64 a] w fun e w' => ∃ r : Nat, e = .returned (.int .i64 r) ∧ Told r (n + (1 + ds.size + tx.size + JV.wtL l + JV.wtF f)) ∧ Below w.heap.size w w' := by
  obtain ⟨W0, hW0⟩ : ∃ W0, w.alloc (.cells #[.int .i64 k, .bool t, .bool ng, .string ds, .int .i64 ex, .string tx, .slice A l.length c, .slice B f.length d] 27) = W0 := ⟨_, rfl⟩
  have hb0 : Below w.heap.size w W0 := by rw [← hW0]; exact (Below.refl _ w).alloc (Nat.le_refl _) _
  have hbx : W0.heap[w.heap.size]? = some (.cells #[.int .i64 k, .bool t, .bool ng, .string ds, .int .i64 ex, .string tx, .slice A l.length c, .slice B f.length d] 27 (0, 0)) := by rw [← hW0]; exact heap_alloc_new w _
  have hc0 := cellAll hbx
  have ha2 : ¬ (4096 : Int) < (a : Int) := by omega
  have hCl0 := Kd.C_below hCl hb0
  have hCf0 := Kd.C_below hCf hb0
  clear hCl hCf
  replace hbx := Aside0.mk hbx
  replace hb0 := Aside0.mk hb0
  have w1 : IntKind.i64.wrap ((n : Int) + 1) = (n : Int) + 1 := by rw [IntKind.wrap_i64]; omega
  go_enter Tryz.func76, Tryz.ntmps76
  go_wp2_with fail
  go_loopw [1, 7] (fun q i wr => ∃ j m : Nat, i = .int .i64 j ∧ q = .int .i64 m ∧ j ≤ l.length ∧ Told m (n + (1 + ds.size + tx.size + f.length + (l.length - j) + JV.wtL (l.take j))) ∧ Below W0.heap.size W0 wr) (fun _ i _ => l.length - (intOf i).toNat)
  case atStart =>
    refine ⟨0, n + (1 + ds.size + tx.size + f.length + l.length), rfl, ?_, Nat.zero_le _, ⟨by omega, fun _ => ?_⟩, Below.refl _ _⟩
    · congr 1; omega
    · rw [List.take_zero, JV.wtL]; omega
  case round =>
    obtain ⟨j, m, rfl, rfl, hj, hT, hB⟩ := hrel
    obtain ⟨hm50, hT⟩ := hT
    have hbr := (hB.block w.heap.size (blk_lt hbx.out)).trans hbx.out
    have hcr := cellAll hbr
    replace hbr := Aside0.mk hbr
    by_cases hgo : j < l.length ∧ m ≤ 4194304
    · obtain ⟨hjl, hml⟩ := hgo
      have h1 : (j : Int) < (l.length : Int) := by omega
      have h2 : (m : Int) ≤ 4194304 := by omega
      obtain ⟨ad, x, A6, c6, A7, c7, rfl, hx, hcs, l6, g6, l7, g7⟩ := at_V (Kd.C_below hCl0 hB) j hjl
      have hK := kV_mkK l6 g6 l7 g7
      unfold JV.cells at hcs hK
      obtain ⟨q0, q1, q2, q3, q4, q5, q6, q7, _⟩ := hcs
      have hxm : x ∈ l := List.mem_of_getElem? hx
      have cM := hl x hxm wr _ m (a + 1) hK (fits_memL hxm hfL) (by omega) (by omega)
      have hsn : JV.wtL (l.take (j + 1)) = JV.wtL (l.take j) + (1 + x.wt) := by
        rw [List.take_add_one, hx, Option.toList_some, wtL_app, JV.wtL, JV.wtL]; omega
      replace hsn := Aside0.mk hsn
      replace hx := Aside0.mk hx
      replace hT := Aside0.mk hT
      clear hK hxm
      rw [show (((a + 1 : Nat) : Int)) = (a : Int) + 1 by omega] at cM
      go_wp2_with (go_at_call 76; refine cM.mono ?_; rintro e w1 ⟨r, rfl, hr50, hrw, hb4⟩)
      go_roundw
      case rel =>
        refine ⟨j + 1, r, by go_num, rfl, by omega, ⟨hr50, fun h => ?_⟩, hB.trans (hb4.mono hB.size)⟩
        have h3 := hrw h
        have h4 := hT.out (by omega)
        rw [hsn.out]
        omega
      case measure => simp [intOf]; omega
    · have hT2 : Aside0 (Told m (n + (1 + ds.size + tx.size + f.length + JV.wtL l))) := by
        refine ⟨hm50, fun h => ?_⟩
        have h3 := hT h
        have hjl : j = l.length := by omega
        rw [hjl, List.take_length] at h3
        omega
      have hor : ¬ ((j : Int) < (l.length : Int)) ∨ ((j : Int) < (l.length : Int) ∧ ¬ ((m : Int) ≤ 4194304)) := by omega
      clear hgo hT
      rcases hor with h1 | ⟨h1, h2⟩
      all_goals (go_wp2_with fail)
      all_goals (go_loopw [1, 8] (fun q i wr2 => ∃ j m : Nat, i = .int .i64 j ∧ q = .int .i64 m ∧ j ≤ f.length ∧ Told m (n + (1 + ds.size + tx.size + (f.length - j) + JV.wtL l + JV.wtF (f.take j))) ∧ Below W0.heap.size W0 wr2) (fun _ i _ => f.length - (intOf i).toNat))
      all_goals (try (refine ⟨0, m, rfl, rfl, Nat.zero_le _, ⟨hT2.out.1, fun h => ?_⟩, hB⟩; have h3 := hT2.out.2 h; rw [List.take_zero, JV.wtF]; omega))
      all_goals (obtain ⟨i, q, rfl, rfl, hi, ⟨hq50, hTq⟩, hB2⟩ := hrel)
      all_goals (have hbr2 := (hB2.block w.heap.size (blk_lt hbx.out)).trans hbx.out)
      all_goals (have hcr2 := cellAll hbr2)
      all_goals (replace hbr2 := Aside0.mk hbr2)
      all_goals (by_cases hgo2 : i < f.length ∧ q ≤ 4194304)
      iterate 2
        · obtain ⟨hil, hql⟩ := hgo2
          have k1 : (i : Int) < (f.length : Int) := by omega
          have k2 : (q : Int) ≤ 4194304 := by omega
          obtain ⟨ad, x, A6, c6, A7, c7, rfl, hx, hcs, l6, g6, l7, g7⟩ := at_F (Kd.C_below hCf0 hB2) i hil
          have hK := kV_mkK l6 g6 l7 g7
          unfold JV.cells at hcs hK
          obtain ⟨q0, q1, q2, q3, q4, q5, q6, q7, q8, _⟩ := hcs
          have hxm : x ∈ f := List.mem_of_getElem? hx
          have hfm := fits_memF hxm hfF
          have hnm := hfm.1
          have cM := fun (W : World) (hW : Below wr.heap.size wr W) => hf x hxm W _ (q + x.name.size) (a + 1) (kV.K_below hW hK) hfm.2 (by omega) (by omega)
          have hsn : JV.wtF (f.take (i + 1)) = JV.wtF (f.take i) + (1 + x.name.size + x.value.wt) := by
            rw [List.take_add_one, hx, Option.toList_some, wtF_app]
            obtain ⟨xn, xv⟩ := x
            rw [JV.wtF, JV.wtF]
            simp only [JF.name, JF.value]
            omega
          replace hsn := Aside0.mk hsn
          replace hx := Aside0.mk hx
          replace hTq := Aside0.mk hTq
          replace hT2 := Aside0.mk hT2
          clear hK hxm hfm
          rw [show (((a + 1 : Nat) : Int)) = (a : Int) + 1 by omega, show (((q + x.name.size : Nat) : Int)) = (q : Int) + (x.name.size : Int) by omega] at cM
          go_wp2_with fail
          go_still_tail 17, (by kernel_rfl)
          change wpList _ _ _ _ _ wr.drew
          have cM2 := cM wr.drew (Below.refl _ wr).drew
          go_wp2_with (go_at_call 76; refine cM2.mono ?_; rintro e w1 ⟨r, rfl, hr50, hrw, hb4⟩)
          go_roundw
          case rel =>
            refine ⟨i + 1, r, by go_num, rfl, by omega, ⟨hr50, fun h => ?_⟩, hB2.trans ((Below.refl _ wr).drew.trans hb4 |>.mono hB2.size)⟩
            have h3 := hrw h
            have h4 := hTq.out (by omega)
            rw [hsn.out]
            omega
          case measure => simp [intOf]; omega
        · have hT3 : Aside0 (Told q (n + (1 + ds.size + tx.size + JV.wtL l + JV.wtF f))) := by
            refine ⟨⟨hq50, fun h => ?_⟩⟩
            have h3 := hTq h
            have hil : i = f.length := by omega
            rw [hil, List.take_length] at h3
            omega
          have hor2 : ¬ ((i : Int) < (f.length : Int)) ∨ ((i : Int) < (f.length : Int) ∧ ¬ ((q : Int) ≤ 4194304)) := by omega
          clear hgo2 hTq hT2
          rcases hor2 with h1 | ⟨h1, h2⟩
          all_goals (go_wp2_with fail)
          all_goals go_ret
          all_goals exact ⟨q, rfl, hT3.out, hb0.out.trans (hB2.mono hb0.out.size)⟩

theorem rmany_step (x : JV) (hl : ∀ y ∈ x.list, RManyOK y) (hf : ∀ f ∈ x.fields, RManyOK f.value) : RManyOK x := by
  intro w cs n a hK hx hn ha
  obtain ⟨A, c, B, d, rfl, hV⟩ := VC.of hK
  obtain ⟨k, t, ng, ds, ex, tx, l, f⟩ := x
  obtain ⟨_, hlc, hCl, hfc, hCf⟩ := hV
  rw [JV.fits] at hx
  obtain ⟨_, _, h1, h2, h3, h4, h5, h6⟩ := hx
  unfold JV.cells
  simp only [JV.kind, JV.truth, JV.neg, JV.digits, JV.exp, JV.text, JV.list, JV.fields] at *
  by_cases ha2 : a ≤ 4096
  · refine (rmany_go w k t ng ds tx ex A B c d n a l f hn ha2 hlc hCl hfc hCf h1 h2 h3 h4 hl hf h5 h6).mono ?_
    rintro e w' ⟨r, rfl, ⟨hr, hrw⟩, hb⟩
    refine ⟨r, rfl, hr, fun h => ?_, hb⟩
    rw [JV.wt]
    exact hrw h
  · refine (rmany_stop w k t ng ds tx ex A B _ c _ d n a ha2).mono ?_
    rintro e w' ⟨rfl, hb⟩
    exact ⟨4194305, rfl, by omega, fun h => by omega, hb⟩
theorem rmany_all : ∀ (n : Nat) (x : JV), x.wt ≤ n → RManyOK x
  | 0, .mk k t ng ds ex tx l f, h => by rw [JV.wt] at h; omega
  | n + 1, .mk k t ng ds ex tx l f, h => by
    rw [JV.wt] at h
    exact rmany_step _ (fun y hy => rmany_all n y (by have := wt_memL hy; simp only [JV.list] at this; omega)) (fun g hg => rmany_all n _ (by have := wt_memF hg; simp only [JV.fields] at this; omega))
theorem rmany_any (x : JV) : RManyOK x := rmany_all _ x (Nat.le_refl _)


set_option maxRecDepth 100000 in
set_option maxHeartbeats 4000000 in
theorem beyond1_any (x : JV) (g : Nat) (w : World) (cs : List Value) (hK : kV.K w x cs) (hx : x.fits) (hg : w.heap[g]? = some (.cells cs.toArray 27 (0, 0))) :
    Calls Tryz.prog 44 #[.slice (some ⟨g, 0, none⟩) 1 1] w fun e w' => ∃ b : Bool, e = .returned (.bool b) ∧ (b = false → x.wt ≤ 4194304) ∧ Below w.heap.size w w' := by
  obtain ⟨A, c, B, d, rfl, _⟩ := VC.of hK
  have hc0 := cellAll hg
  unfold JV.cells at *
  replace hg := Aside0.mk hg
  go_enter Tryz.func44, Tryz.ntmps44
  go_wp2_with fail
  go_loopw [3, 4] (fun q i wr => ∃ j m : Nat, i = .int .i64 j ∧ q = .int .i64 m ∧ ((j = 0 ∧ m = 0) ∨ (j = 1 ∧ (m ≤ 4194304 → x.wt ≤ 4194304))) ∧ Below w.heap.size w wr) (fun _ i _ => 1 - (intOf i).toNat)
  case atStart => exact ⟨0, 0, rfl, rfl, .inl ⟨rfl, rfl⟩, Below.refl _ _⟩
  case round =>
    obtain ⟨j, m, rfl, rfl, hor, hB⟩ := hrel
    have hcr := cellAll ((hB.block _ (blk_lt hg.out)).trans hg.out)
    rcases hor with ⟨rfl, rfl⟩ | ⟨rfl, hm⟩
    · have cM := rmany_any x wr _ 0 0 (kV.K_below hB hK) hx (by omega) (by omega)
      unfold JV.cells at cM
      go_wp2_with (go_at_call 76; refine cM.mono ?_; rintro e w1 ⟨r, rfl, hr50, hrw, hb4⟩)
      go_roundw
      case rel => exact ⟨1, r, by go_num, rfl, .inr ⟨rfl, fun h => by have := hrw h; omega⟩, hB.trans (hb4.mono hB.size)⟩
      case measure => simp [intOf]
    · replace hm := Aside0.mk hm
      go_wp2_with fail
      go_ret
      exact ⟨decide ((4194304 : Int) < (m : Int)), rfl, fun h => hm.out (by have := of_decide_eq_false h; omega), hB⟩
set_option maxRecDepth 100000 in
set_option maxHeartbeats 4000000 in
/-- **voyagelaw13.beyond**: what is not beyond is of a weight of at most 2^22. -/
theorem beyond_any (x : JV) (w : World) (cs : List Value) (hK : kV.K w x cs) (hx : x.fits) :
    Calls Tryz.prog 21 #[.agg cs.toArray] w fun e w' => ∃ b : Bool, e = .returned (.bool b) ∧ (b = false → x.wt ≤ 4194304) ∧ Below w.heap.size w w' := by
  have hB := ((Below.refl w.heap.size w).alloc (Nat.le_refl _) (.cells cs.toArray 27)).alloc (by simp) (.cells cs.toArray 27)
  have hn0 := heap_alloc_new w (.cells cs.toArray 27)
  have hc0 := cellAll hn0
  have hn := heap_alloc_new (w.alloc (.cells cs.toArray 27)) (.cells cs.toArray 27)
  have cB := beyond1_any x _ _ cs (kV.K_below hB hK) hx hn
  rw [show (w.alloc (.cells cs.toArray 27)).heap.size = w.heap.size + 1 by simp] at cB
  obtain ⟨A, c, B, d, rfl, _⟩ := VC.of hK
  unfold JV.cells at *
  replace hB := Aside0.mk hB
  clear hK hn hn0
  go_enter Tryz.func21, Tryz.ntmps21
  go_wp2_with (go_at_call 44; refine cB.mono ?_; rintro e w1 ⟨b, rfl, hbw, hb1⟩)
  go_ret
  exact ⟨b, rfl, hbw, hB.out.trans (hb1.mono hB.out.size)⟩
end Go.Proofs.YtkdeleafgailhaaGreatDoor
end
section
set_option linter.unusedVariables false
set_option linter.unusedSimpArgs false
namespace Go.Proofs.YtkdeleafgailhaaGreatDoor
open Go Go.RowKit Go.Proofs.YtkdeleafgailhaaGreatDoorW.PrintWords

set_option maxRecDepth 100000 in
set_option maxHeartbeats 4000000 in
theorem rsame_any (x y : JV) (w : World) (cs cs' : List Value) (hK : kV.K w x cs) (hK' : kV.K w y cs') (hwt : x.wt ≤ 1073741824) (hin : x.ints) (hwt' : y.wt ≤ 1073741824) (hin' : y.ints) :
    Calls Tryz.prog 55 #[.agg cs.toArray, .agg cs'.toArray] w fun e w' => ∃ b : Bool, e = .returned (.bool b) ∧ (b = true ↔ x.norm = y.norm) ∧ Below w.heap.size w w' := by
  have cX := fun (W : World) (hb : Below w.heap.size w W) => rnorm_any x W cs (kV.K_below hb hK) (by omega) hin
  have cY := fun (W : World) (hb : Below w.heap.size w W) => rnorm_any y W cs' (kV.K_below hb hK') (by omega) hin'
  obtain ⟨A, c, B, d, rfl, _⟩ := kV_open hK
  obtain ⟨A', c', B', d', rfl, _⟩ := kV_open hK'
  unfold JV.cells at cX cY ⊢
  have hB0 := ((Below.refl _ w).alloc (Nat.le_refl _) (.cells #[.int .i64 x.kind, .bool x.truth, .bool x.neg, .string x.digits, .int .i64 x.exp, .string x.text, .slice A x.list.length c, .slice B x.fields.length d] 27)).alloc (by simp) (.cells #[.int .i64 y.kind, .bool y.truth, .bool y.neg, .string y.digits, .int .i64 y.exp, .string y.text, .slice A' y.list.length c', .slice B' y.fields.length d'] 27)
  obtain ⟨_, e1⟩ := boxes' w (.cells #[.int .i64 x.kind, .bool x.truth, .bool x.neg, .string x.digits, .int .i64 x.exp, .string x.text, .slice A x.list.length c, .slice B x.fields.length d] 27) (.cells #[.int .i64 y.kind, .bool y.truth, .bool y.neg, .string y.digits, .int .i64 y.exp, .string y.text, .slice A' y.list.length c', .slice B' y.fields.length d'] 27)
  replace e1 := Aside0.mk e1
  replace hB0 := Aside0.mk hB0
  clear hK hK'
  go_enter Tryz.func55, Tryz.ntmps55
  go_wp2_with (first
    | (go_at_call 17; refine (like_any x.norm y.norm _ _ _ (kV.K_below hb6.out hK1.out) hK2.out).mono ?_; rintro e w3 ⟨b, rfl, hb3, hb4⟩; replace hb3 := Aside0.mk hb3)
    | (have hm := hmark; go_at_call 18; refine (cY _ hB2.out).mono ?_; rintro e w2 ⟨cs2, rfl, hM2, hb2⟩; obtain ⟨vl2, vf2, rfl, hRl2, hRf2⟩ := kV_openM hM2; unfold JV.cells at hM2; obtain ⟨Bl, dl, rfl⟩ := Kd.R_slice hRl2; obtain ⟨Bf, df, rfl⟩ := Kd.R_slice hRf2; unfold JV.cells; clear hRl2 hRf2; have h5 := (hb2.block w1.heap.size (by simp)).trans (heap_alloc_new w1 (.cells #[.int .i64 x.norm.kind, .bool x.norm.truth, .bool x.norm.neg, .string x.norm.digits, .int .i64 x.norm.exp, .string x.norm.text, .slice Al x.norm.list.length cl, .slice Af x.norm.fields.length cf] 27)); have h56 := cellAll ((heap_alloc_old w2 (.cells #[.int .i64 y.norm.kind, .bool y.norm.truth, .bool y.norm.neg, .string y.norm.digits, .int .i64 y.norm.exp, .string y.norm.text, .slice Bl y.norm.list.length dl, .slice Bf y.norm.fields.length df] 27) (blk_lt h5)).trans h5); have hK2 := kV.K_below ((Below.refl _ w2).alloc (Nat.le_refl _) (.cells #[.int .i64 y.norm.kind, .bool y.norm.truth, .bool y.norm.neg, .string y.norm.digits, .int .i64 y.norm.exp, .string y.norm.text, .slice Bl y.norm.list.length dl, .slice Bf y.norm.fields.length df] 27)) (kV.K_of_M hM2); have hb6 := Aside0.mk ((((Below.refl w1.heap.size w1).alloc (Nat.le_refl _) (.cells #[.int .i64 x.norm.kind, .bool x.norm.truth, .bool x.norm.neg, .string x.norm.digits, .int .i64 x.norm.exp, .string x.norm.text, .slice Al x.norm.list.length cl, .slice Af x.norm.fields.length cf] 27)).trans (hb2.mono (by simp))).alloc (by have := hb2.size; simp at this; omega) (.cells #[.int .i64 y.norm.kind, .bool y.norm.truth, .bool y.norm.neg, .string y.norm.digits, .int .i64 y.norm.exp, .string y.norm.text, .slice Bl y.norm.list.length dl, .slice Bf y.norm.fields.length df] 27)); have hB6 := Aside0.mk ((hB2.out.trans (hb2.mono hB2.out.size)).alloc ((hB2.out.trans (hb2.mono hB2.out.size)).size) (.cells #[.int .i64 y.norm.kind, .bool y.norm.truth, .bool y.norm.neg, .string y.norm.digits, .int .i64 y.norm.exp, .string y.norm.text, .slice Bl y.norm.list.length dl, .slice Bf y.norm.fields.length df] 27)); replace hK2 := Aside0.mk hK2; replace h5 := Aside0.mk h5; clear hM2 hb2)
    | (go_at_call 18; refine (cX _ hB0.out).mono ?_; rintro e w1 ⟨cs1, rfl, hM1, hb1⟩; obtain ⟨vl, vf, rfl, hRl, hRf⟩ := kV_openM hM1; unfold JV.cells at hM1; obtain ⟨Al, cl, rfl⟩ := Kd.R_slice hRl; obtain ⟨Af, cf, rfl⟩ := Kd.R_slice hRf; unfold JV.cells; clear hRl hRf; have hy1 := (hb1.block _ (blk_lt e1.out)).trans e1.out; have hy5 := cellAll ((heap_alloc_old w1 (.cells #[.int .i64 x.norm.kind, .bool x.norm.truth, .bool x.norm.neg, .string x.norm.digits, .int .i64 x.norm.exp, .string x.norm.text, .slice Al x.norm.list.length cl, .slice Af x.norm.fields.length cf] 27) (blk_lt hy1)).trans hy1); have hK1 := Aside0.mk (kV.K_of_M hM1); have hB1 := hB0.out.trans (hb1.mono hB0.out.size); have hB2 := Aside0.mk (hB1.alloc hB1.size (.cells #[.int .i64 x.norm.kind, .bool x.norm.truth, .bool x.norm.neg, .string x.norm.digits, .int .i64 x.norm.exp, .string x.norm.text, .slice Al x.norm.list.length cl, .slice Af x.norm.fields.length cf] 27)); have hmark := trivial; replace hy1 := Aside0.mk hy1; clear hM1 hb1 hB1))
  go_ret
  exact ⟨b, rfl, hb3.out, hB6.out.trans (hb4.mono hB6.out.size)⟩
end Go.Proofs.YtkdeleafgailhaaGreatDoor
end
section
set_option linter.unusedVariables false
set_option linter.unusedSimpArgs false
namespace Go.Proofs.YtkdeleafgailhaaGreatDoor
open Go Go.RowKit Go.Proofs.YtkdeleafgailhaaGreatDoorW.PrintWords

/-- **record.Decode.** -/
theorem decode_any (E : ErrV) (a : Addr) (bs : List UInt8) (A0 : Option Addr) (c0 : Nat) (w : World) (hR : ReadsInt w .u8 A0 bs.length (bint bs)) (hc : bs.length ≤ c0) (hP : REnv E a w) (hbl : bs.length ≤ 140737488355328) :
    Calls Tryz.prog 24 #[.slice A0 bs.length c0] w fun en w' => DecGives a w (dec bs) en w' := by
  cases bs with
  | nil => exact decode_nil E a [] A0 c0 w hR hc hP rfl
  | cons k b =>
    by_cases hk : 1 ≤ (k.toNat : Int) ∧ (k.toNat : Int) ≤ 7
    · exact decode_good E a (k :: b) A0 c0 w hR hc hP k b rfl hk (by rw [List.length_cons] at hbl; omega)
    · have hd : dec (k :: b) = none := by
        unfold dec
        dsimp only
        rw [if_pos]
        apply Decidable.byContradiction
        intro h
        exact hk (parts_range h)
      rw [hd]
      exact decode_bad E a (k :: b) A0 c0 w hR hc hP k b rfl hk
/-- An event's cells, told one by one. -/
theorem EvK.open_ {w : World} {e : Evn} {cs : List Value} (h : EvK w e cs) : ∃ PA pc A lc B ld, cs = (evA e PA pc A lc B ld).toList := by
  obtain ⟨PA, pc, vs, rfl, _, _, hK⟩ := h
  obtain ⟨A, lc, B, ld, rfl, _⟩ := VC.of hK
  exact ⟨PA, pc, A, lc, B, ld, rfl⟩
theorem dec_some (E : ErrV) (a : Addr) (bs : List UInt8) (d : Evn) (hd : dec bs = some d) (A0 : Option Addr) (c0 : Nat) (w : World) (hR : ReadsInt w .u8 A0 bs.length (bint bs)) (hc : bs.length ≤ c0) (hP : REnv E a w) (hbl : bs.length ≤ 140737488355328) :
    Calls Tryz.prog 24 #[.slice A0 bs.length c0] w fun en w' => ∃ PA pc A lc B ld, en = .returned (.tuple #[.agg (evA d PA pc A lc B ld), .nilIface]) ∧ EvK w' d (evA d PA pc A lc B ld).toList ∧ EvOK d ∧ Below w.heap.size w w' := by
  have h := decode_any E a bs A0 c0 w hR hc hP hbl
  rw [hd] at h
  refine h.mono ?_
  rintro en w' (⟨d', cs, h1, rfl, hK, hok, hb⟩ | ⟨h1, _⟩)
  · injection h1 with h1
    subst h1
    obtain ⟨PA, pc, A, lc, B, ld, hcs⟩ := hK.open_
    obtain rfl : cs = evA d PA pc A lc B ld := Array.toList_inj.1 hcs
    exact ⟨PA, pc, A, lc, B, ld, rfl, hK, hok, hb⟩
  · cases h1
theorem dec_none_any (E : ErrV) (a : Addr) (bs : List UInt8) (hd : dec bs = none) (A0 : Option Addr) (c0 : Nat) (w : World) (hR : ReadsInt w .u8 A0 bs.length (bint bs)) (hc : bs.length ≤ c0) (hP : REnv E a w) (hbl : bs.length ≤ 140737488355328) :
    Calls Tryz.prog 24 #[.slice A0 bs.length c0] w fun en w' => en = .returned (.tuple #[.agg zeroA, ev a]) ∧ Below w.heap.size w w' := by
  have h := decode_any E a bs A0 c0 w hR hc hP hbl
  rw [hd] at h
  refine h.mono ?_
  rintro en w' (⟨d', cs, h1, _⟩ | ⟨_, h1, h2⟩)
  · cases h1
  · exact ⟨h1, h2⟩
theorem enc_yes (E : ErrV) (a : Addr) (e : Evn) (h : encs e) (w : World) (cs : List Value) (hK : EvK w e cs) (hP : REnv E a w) (hf : EvOK e) :
    Calls Tryz.prog 23 #[.agg cs.toArray] w fun en w' => ∃ A c, en = .returned (.tuple #[.slice A (encB e).length c, .nilIface]) ∧ ReadsInt w' .u8 A (encB e).length (bint (encB e)) ∧ (encB e).length ≤ c ∧ Below w.heap.size w w' := by
  refine (enc_any E a e w cs hK hP hf).mono ?_
  rintro en w' (⟨_, v, rfl, hO, hb⟩ | ⟨h1, _⟩)
  · obtain ⟨A, c, rfl, hR⟩ := hO.reads
    exact ⟨A, c, rfl, hR, own_le hO, hb⟩
  · exact absurd h h1
theorem enc_no (E : ErrV) (a : Addr) (e : Evn) (h : ¬ encs e) (w : World) (cs : List Value) (hK : EvK w e cs) (hP : REnv E a w) (hf : EvOK e) :
    Calls Tryz.prog 23 #[.agg cs.toArray] w fun en w' => en = .returned (.tuple #[.slice none 0 0, ev a]) ∧ Below w.heap.size w w' := by
  refine (enc_any E a e w cs hK hP hf).mono ?_
  rintro en w' (⟨h1, _⟩ | ⟨_, h1, h2⟩)
  · exact absurd h1 h
  · exact ⟨h1, h2⟩
end Go.Proofs.YtkdeleafgailhaaGreatDoor
end
section
set_option linter.unusedVariables false
set_option linter.unusedSimpArgs false
namespace Go.Proofs.YtkdeleafgailhaaGreatDoor
open Go Go.RowKit Go.Proofs.YtkdeleafgailhaaGreatDoorW.PrintWords

theorem EvK.open2 {w : World} {e : Evn} {cs : List Value} (h : EvK w e cs) : ∃ PA pc A lc B ld, cs = (evA e PA pc A lc B ld).toList ∧ ReadsInt w .i64 PA e.place.length e.place ∧ kV.K w e.out.value (valL e.out.value A lc B ld) := by
  obtain ⟨PA, pc, vs, rfl, hR, _, hK⟩ := h
  obtain ⟨A, lc, B, ld, rfl, _⟩ := VC.of hK
  exact ⟨PA, pc, A, lc, B, ld, rfl, hR, hK⟩
set_option maxRecDepth 100000 in
set_option maxHeartbeats 16000000 in
theorem same13_any (e : Evn) (w : World) (cs cs2 : List Value) (hK : EvK w e cs) (hK2 : EvK w e cs2) (hF : Facts w) (hok : EvOK e) :
    Calls Tryz.prog 25 #[.agg cs.toArray, .agg cs2.toArray] w fun en w' => en = .returned (.bool true) ∧ Below w.heap.size w w' := by
  obtain ⟨PA, pc, A, lc, B, ld, rfl, hR, hV⟩ := hK.open2
  obtain ⟨PA2, pc2, A2, lc2, B2, ld2, rfl, hR2, hV2⟩ := hK2.open2
  simp only [Array.toArray_toList]
  unfold evA
  unfold valL JV.cells at hV hV2
  obtain ⟨hx1, hx2⟩ := boxes w (.cells #[.int .i64 e.kind, .slice PA e.place.length pc, .int .i64 e.time, .bool e.out.fine, .int .i64 e.out.value.kind, .bool e.out.value.truth, .bool e.out.value.neg, .string e.out.value.digits, .int .i64 e.out.value.exp, .string e.out.value.text, .slice A e.out.value.list.length lc, .slice B e.out.value.fields.length ld, .string ⟨e.out.err.toArray⟩, .string ⟨e.out.cause.toArray⟩, .string ⟨e.machine.toArray⟩, .string ⟨e.input.toArray⟩, .int .i64 e.fuel] 48) (.cells #[.int .i64 e.kind, .slice PA2 e.place.length pc2, .int .i64 e.time, .bool e.out.fine, .int .i64 e.out.value.kind, .bool e.out.value.truth, .bool e.out.value.neg, .string e.out.value.digits, .int .i64 e.out.value.exp, .string e.out.value.text, .slice A2 e.out.value.list.length lc2, .slice B2 e.out.value.fields.length ld2, .string ⟨e.out.err.toArray⟩, .string ⟨e.out.cause.toArray⟩, .string ⟨e.machine.toArray⟩, .string ⟨e.input.toArray⟩, .int .i64 e.fuel] 48)
  have hb0 := ((Below.refl w.heap.size w).alloc (Nat.le_refl _) (.cells #[.int .i64 e.kind, .slice PA e.place.length pc, .int .i64 e.time, .bool e.out.fine, .int .i64 e.out.value.kind, .bool e.out.value.truth, .bool e.out.value.neg, .string e.out.value.digits, .int .i64 e.out.value.exp, .string e.out.value.text, .slice A e.out.value.list.length lc, .slice B e.out.value.fields.length ld, .string ⟨e.out.err.toArray⟩, .string ⟨e.out.cause.toArray⟩, .string ⟨e.machine.toArray⟩, .string ⟨e.input.toArray⟩, .int .i64 e.fuel] 48)).alloc (by simp) (.cells #[.int .i64 e.kind, .slice PA2 e.place.length pc2, .int .i64 e.time, .bool e.out.fine, .int .i64 e.out.value.kind, .bool e.out.value.truth, .bool e.out.value.neg, .string e.out.value.digits, .int .i64 e.out.value.exp, .string e.out.value.text, .slice A2 e.out.value.list.length lc2, .slice B2 e.out.value.fields.length ld2, .string ⟨e.out.err.toArray⟩, .string ⟨e.out.cause.toArray⟩, .string ⟨e.machine.toArray⟩, .string ⟨e.input.toArray⟩, .int .i64 e.fuel] 48)
  have hc1 := cellAll (w := (w.alloc (.cells #[.int .i64 e.kind, .slice PA e.place.length pc, .int .i64 e.time, .bool e.out.fine, .int .i64 e.out.value.kind, .bool e.out.value.truth, .bool e.out.value.neg, .string e.out.value.digits, .int .i64 e.out.value.exp, .string e.out.value.text, .slice A e.out.value.list.length lc, .slice B e.out.value.fields.length ld, .string ⟨e.out.err.toArray⟩, .string ⟨e.out.cause.toArray⟩, .string ⟨e.machine.toArray⟩, .string ⟨e.input.toArray⟩, .int .i64 e.fuel] 48)).alloc (.cells #[.int .i64 e.kind, .slice PA2 e.place.length pc2, .int .i64 e.time, .bool e.out.fine, .int .i64 e.out.value.kind, .bool e.out.value.truth, .bool e.out.value.neg, .string e.out.value.digits, .int .i64 e.out.value.exp, .string e.out.value.text, .slice A2 e.out.value.list.length lc2, .slice B2 e.out.value.fields.length ld2, .string ⟨e.out.err.toArray⟩, .string ⟨e.out.cause.toArray⟩, .string ⟨e.machine.toArray⟩, .string ⟨e.input.toArray⟩, .int .i64 e.fuel] 48)) hx1
  have hc2 := cellAll (w := (w.alloc (.cells #[.int .i64 e.kind, .slice PA e.place.length pc, .int .i64 e.time, .bool e.out.fine, .int .i64 e.out.value.kind, .bool e.out.value.truth, .bool e.out.value.neg, .string e.out.value.digits, .int .i64 e.out.value.exp, .string e.out.value.text, .slice A e.out.value.list.length lc, .slice B e.out.value.fields.length ld, .string ⟨e.out.err.toArray⟩, .string ⟨e.out.cause.toArray⟩, .string ⟨e.machine.toArray⟩, .string ⟨e.input.toArray⟩, .int .i64 e.fuel] 48)).alloc (.cells #[.int .i64 e.kind, .slice PA2 e.place.length pc2, .int .i64 e.time, .bool e.out.fine, .int .i64 e.out.value.kind, .bool e.out.value.truth, .bool e.out.value.neg, .string e.out.value.digits, .int .i64 e.out.value.exp, .string e.out.value.text, .slice A2 e.out.value.list.length lc2, .slice B2 e.out.value.fields.length ld2, .string ⟨e.out.err.toArray⟩, .string ⟨e.out.cause.toArray⟩, .string ⟨e.machine.toArray⟩, .string ⟨e.input.toArray⟩, .int .i64 e.fuel] 48)) hx2
  have cL := fun (W : World) (hb : Below ((w.alloc (.cells #[.int .i64 e.kind, .slice PA e.place.length pc, .int .i64 e.time, .bool e.out.fine, .int .i64 e.out.value.kind, .bool e.out.value.truth, .bool e.out.value.neg, .string e.out.value.digits, .int .i64 e.out.value.exp, .string e.out.value.text, .slice A e.out.value.list.length lc, .slice B e.out.value.fields.length ld, .string ⟨e.out.err.toArray⟩, .string ⟨e.out.cause.toArray⟩, .string ⟨e.machine.toArray⟩, .string ⟨e.input.toArray⟩, .int .i64 e.fuel] 48)).alloc (.cells #[.int .i64 e.kind, .slice PA2 e.place.length pc2, .int .i64 e.time, .bool e.out.fine, .int .i64 e.out.value.kind, .bool e.out.value.truth, .bool e.out.value.neg, .string e.out.value.digits, .int .i64 e.out.value.exp, .string e.out.value.text, .slice A2 e.out.value.list.length lc2, .slice B2 e.out.value.fields.length ld2, .string ⟨e.out.err.toArray⟩, .string ⟨e.out.cause.toArray⟩, .string ⟨e.machine.toArray⟩, .string ⟨e.input.toArray⟩, .int .i64 e.fuel] 48)).heap.size ((w.alloc (.cells #[.int .i64 e.kind, .slice PA e.place.length pc, .int .i64 e.time, .bool e.out.fine, .int .i64 e.out.value.kind, .bool e.out.value.truth, .bool e.out.value.neg, .string e.out.value.digits, .int .i64 e.out.value.exp, .string e.out.value.text, .slice A e.out.value.list.length lc, .slice B e.out.value.fields.length ld, .string ⟨e.out.err.toArray⟩, .string ⟨e.out.cause.toArray⟩, .string ⟨e.machine.toArray⟩, .string ⟨e.input.toArray⟩, .int .i64 e.fuel] 48)).alloc (.cells #[.int .i64 e.kind, .slice PA2 e.place.length pc2, .int .i64 e.time, .bool e.out.fine, .int .i64 e.out.value.kind, .bool e.out.value.truth, .bool e.out.value.neg, .string e.out.value.digits, .int .i64 e.out.value.exp, .string e.out.value.text, .slice A2 e.out.value.list.length lc2, .slice B2 e.out.value.fields.length ld2, .string ⟨e.out.err.toArray⟩, .string ⟨e.out.cause.toArray⟩, .string ⟨e.machine.toArray⟩, .string ⟨e.input.toArray⟩, .int .i64 e.fuel] 48)) W) => like_same e.out.value W _ _ (kV.K_below hb (kV.K_below hb0 hV)) (kV.K_below hb (kV.K_below hb0 hV2))
  have cS := fun (W : World) (hb : Below ((w.alloc (.cells #[.int .i64 e.kind, .slice PA e.place.length pc, .int .i64 e.time, .bool e.out.fine, .int .i64 e.out.value.kind, .bool e.out.value.truth, .bool e.out.value.neg, .string e.out.value.digits, .int .i64 e.out.value.exp, .string e.out.value.text, .slice A e.out.value.list.length lc, .slice B e.out.value.fields.length ld, .string ⟨e.out.err.toArray⟩, .string ⟨e.out.cause.toArray⟩, .string ⟨e.machine.toArray⟩, .string ⟨e.input.toArray⟩, .int .i64 e.fuel] 48)).alloc (.cells #[.int .i64 e.kind, .slice PA2 e.place.length pc2, .int .i64 e.time, .bool e.out.fine, .int .i64 e.out.value.kind, .bool e.out.value.truth, .bool e.out.value.neg, .string e.out.value.digits, .int .i64 e.out.value.exp, .string e.out.value.text, .slice A2 e.out.value.list.length lc2, .slice B2 e.out.value.fields.length ld2, .string ⟨e.out.err.toArray⟩, .string ⟨e.out.cause.toArray⟩, .string ⟨e.machine.toArray⟩, .string ⟨e.input.toArray⟩, .int .i64 e.fuel] 48)).heap.size ((w.alloc (.cells #[.int .i64 e.kind, .slice PA e.place.length pc, .int .i64 e.time, .bool e.out.fine, .int .i64 e.out.value.kind, .bool e.out.value.truth, .bool e.out.value.neg, .string e.out.value.digits, .int .i64 e.out.value.exp, .string e.out.value.text, .slice A e.out.value.list.length lc, .slice B e.out.value.fields.length ld, .string ⟨e.out.err.toArray⟩, .string ⟨e.out.cause.toArray⟩, .string ⟨e.machine.toArray⟩, .string ⟨e.input.toArray⟩, .int .i64 e.fuel] 48)).alloc (.cells #[.int .i64 e.kind, .slice PA2 e.place.length pc2, .int .i64 e.time, .bool e.out.fine, .int .i64 e.out.value.kind, .bool e.out.value.truth, .bool e.out.value.neg, .string e.out.value.digits, .int .i64 e.out.value.exp, .string e.out.value.text, .slice A2 e.out.value.list.length lc2, .slice B2 e.out.value.fields.length ld2, .string ⟨e.out.err.toArray⟩, .string ⟨e.out.cause.toArray⟩, .string ⟨e.machine.toArray⟩, .string ⟨e.input.toArray⟩, .int .i64 e.fuel] 48)) W) => rsame_any e.out.value e.out.value W _ _ (kV.K_below hb (kV.K_below hb0 hV)) (kV.K_below hb (kV.K_below hb0 hV2)) hok.wt hok.ints hok.wt hok.ints
  have hRb := hR.below hb0
  have hRb2 := hR2.below hb0
  have hpm : e.place.length ≤ 9223372036854775807 := hR.2.1
  have hel : ∀ i : Nat, i < e.place.length → ∃ x : Int, (∃ ad, PA = some ad ∧ ((w.alloc (.cells #[.int .i64 e.kind, .slice PA e.place.length pc, .int .i64 e.time, .bool e.out.fine, .int .i64 e.out.value.kind, .bool e.out.value.truth, .bool e.out.value.neg, .string e.out.value.digits, .int .i64 e.out.value.exp, .string e.out.value.text, .slice A e.out.value.list.length lc, .slice B e.out.value.fields.length ld, .string ⟨e.out.err.toArray⟩, .string ⟨e.out.cause.toArray⟩, .string ⟨e.machine.toArray⟩, .string ⟨e.input.toArray⟩, .int .i64 e.fuel] 48)).alloc (.cells #[.int .i64 e.kind, .slice PA2 e.place.length pc2, .int .i64 e.time, .bool e.out.fine, .int .i64 e.out.value.kind, .bool e.out.value.truth, .bool e.out.value.neg, .string e.out.value.digits, .int .i64 e.out.value.exp, .string e.out.value.text, .slice A2 e.out.value.list.length lc2, .slice B2 e.out.value.fields.length ld2, .string ⟨e.out.err.toArray⟩, .string ⟨e.out.cause.toArray⟩, .string ⟨e.machine.toArray⟩, .string ⟨e.input.toArray⟩, .int .i64 e.fuel] 48)).cell? (ad.add i) = some (.int .i64 x)) ∧ (∃ ad, PA2 = some ad ∧ ((w.alloc (.cells #[.int .i64 e.kind, .slice PA e.place.length pc, .int .i64 e.time, .bool e.out.fine, .int .i64 e.out.value.kind, .bool e.out.value.truth, .bool e.out.value.neg, .string e.out.value.digits, .int .i64 e.out.value.exp, .string e.out.value.text, .slice A e.out.value.list.length lc, .slice B e.out.value.fields.length ld, .string ⟨e.out.err.toArray⟩, .string ⟨e.out.cause.toArray⟩, .string ⟨e.machine.toArray⟩, .string ⟨e.input.toArray⟩, .int .i64 e.fuel] 48)).alloc (.cells #[.int .i64 e.kind, .slice PA2 e.place.length pc2, .int .i64 e.time, .bool e.out.fine, .int .i64 e.out.value.kind, .bool e.out.value.truth, .bool e.out.value.neg, .string e.out.value.digits, .int .i64 e.out.value.exp, .string e.out.value.text, .slice A2 e.out.value.list.length lc2, .slice B2 e.out.value.fields.length ld2, .string ⟨e.out.err.toArray⟩, .string ⟨e.out.cause.toArray⟩, .string ⟨e.machine.toArray⟩, .string ⟨e.input.toArray⟩, .int .i64 e.fuel] 48)).cell? (ad.add i) = some (.int .i64 x)) := fun i hi => by
    obtain ⟨ad, h1, h2⟩ := hRb.2.2 (by omega)
    obtain ⟨ad2, h3, h4⟩ := hRb2.2.2 (by omega)
    exact ⟨_, ⟨ad, h1, h2 i hi⟩, ⟨ad2, h3, h4 i hi⟩⟩
  generalize hWW : ((w.alloc (.cells #[.int .i64 e.kind, .slice PA e.place.length pc, .int .i64 e.time, .bool e.out.fine, .int .i64 e.out.value.kind, .bool e.out.value.truth, .bool e.out.value.neg, .string e.out.value.digits, .int .i64 e.out.value.exp, .string e.out.value.text, .slice A e.out.value.list.length lc, .slice B e.out.value.fields.length ld, .string ⟨e.out.err.toArray⟩, .string ⟨e.out.cause.toArray⟩, .string ⟨e.machine.toArray⟩, .string ⟨e.input.toArray⟩, .int .i64 e.fuel] 48)).alloc (.cells #[.int .i64 e.kind, .slice PA2 e.place.length pc2, .int .i64 e.time, .bool e.out.fine, .int .i64 e.out.value.kind, .bool e.out.value.truth, .bool e.out.value.neg, .string e.out.value.digits, .int .i64 e.out.value.exp, .string e.out.value.text, .slice A2 e.out.value.list.length lc2, .slice B2 e.out.value.fields.length ld2, .string ⟨e.out.err.toArray⟩, .string ⟨e.out.cause.toArray⟩, .string ⟨e.machine.toArray⟩, .string ⟨e.input.toArray⟩, .int .i64 e.fuel] 48)) = WW at *
  replace hb0 := Aside0.mk hb0
  replace hpm := Aside0.mk hpm
  clear hR hR2 hV hV2 hK hK2 hF hok hx1 hx2 hRb hRb2
  generalize hpl : e.place.length = n at *
  clear hpl
  go_enter Tryz.func25, Tryz.ntmps25
  go_wp2_with (rw [hWW])
  go_loopw [5] (fun i wr => ∃ j m : Nat, i = .int .i64 j ∧ j ≤ n ∧ wr = WW.drewN m) (fun i _ => n - (intOf i).toNat)
  case atStart => exact ⟨0, 0, rfl, Nat.zero_le _, rfl⟩
  case round =>
    obtain ⟨j, m, rfl, hj, rfl⟩ := hrel
    have hd1 : ∀ k, (WW.drewN m).cell? ⟨w.heap.size, k, none⟩ = _ := hc1
    have hd2 : ∀ k, (WW.drewN m).cell? ⟨w.heap.size + 1, k, none⟩ = _ := hc2
    by_cases hlt : j < n
    · have hltI : (j : Int) < (n : Int) := by omega
      have hj0 : (0 : Int) ≤ (j : Int) := by omega
      obtain ⟨x, ⟨ad, rfl, q1⟩, ⟨ad2, rfl, q2⟩⟩ := hel j hlt
      have q1d : (WW.drewN m).cell? (ad.add j) = some (.int .i64 x) := q1
      have q2d : (WW.drewN m).cell? (ad2.add j) = some (.int .i64 x) := q2
      have hb9 := hpm.out
      clear hel
      go_wp2_with fail
      go_quiet (fail)
      go_wp2_with fail
      go_roundw
      case rel => exact ⟨j + 1, m + nq, by go_num, by omega, by first | exact drewN_two _ _ _ | rfl⟩
      case measure => simp [intOf]; omega
    · have hltI : ¬ (j : Int) < (n : Int) := by omega
      have hbm : Below WW.heap.size WW (WW.drewN m) := pw_below_drewN (Below.refl _ _) m
      have cL2 : Calls Tryz.prog 17 _ (WW.drewN m) _ := cL _ hbm
      have cS2 := cS _ hbm
      have hbw : Aside0 (Below w.heap.size w (WW.drewN m)) := Aside0.mk (hb0.out.trans (hbm.mono hb0.out.size))
      clear hbm
      clear hel hc1 hc2 cL cS
      cases hfi : e.out.fine <;> simp only [hfi] at *
      all_goals go_wp2_with (first
        | (go_at_call 17; refine cL2.mono ?_; rintro en w2 ⟨rfl, hb2⟩)
        | (go_at_call 55; refine cS2.mono ?_; rintro en w2 ⟨bb, rfl, hbi, hb2⟩; obtain rfl : bb = true := (by first | exact hbi.2 trivial | exact hbi.2 rfl)))
      all_goals go_ret
      all_goals exact ⟨rfl, hbw.out.trans (hb2.mono hbw.out.size)⟩
end Go.Proofs.YtkdeleafgailhaaGreatDoor
end
section
set_option linter.unusedVariables false
set_option linter.unusedSimpArgs false
namespace Go.Proofs.YtkdeleafgailhaaGreatDoor
open Go Go.RowKit Go.Proofs.YtkdeleafgailhaaGreatDoorW.PrintWords

def ev3 : Evn := { zeroE 3 with place := [1, 1, 0] }
def ev5 : Evn := { zeroE 5 with time := 12 }
theorem encs_ev3 : encs ev3 := by
  refine ⟨by decide, fun c hc => ?_⟩
  have hc' : c ∈ [EvPart.p] := hc
  rw [List.mem_singleton] at hc'
  subst hc'
  refine ⟨by decide, ?_⟩
  intro n hn
  have hn' : n ∈ [(1 : Int), 1, 0] := hn
  simp at hn'
  omega
theorem encs_ev5 : encs ev5 := by
  refine ⟨by decide, fun c hc => ?_⟩
  have hc' : c ∈ [EvPart.p, EvPart.t] := hc
  simp only [List.mem_cons, List.not_mem_nil, or_false] at hc'
  rcases hc' with rfl | rfl
  · exact ⟨by decide, fun n hn => nomatch hn⟩
  · exact ⟨by decide, by decide⟩
theorem encB_ev3 : encB ev3 = [3, 3, 1, 1, 0] := by
  simp [encB, ev3, zeroE, tellsP, partsOf, tellP, placeT, placeE, cntE_small]
theorem encB_ev5 : encB ev5 = [5, 0, 12] := by
  simp [encB, ev5, zeroE, tellsP, partsOf, tellP, placeT, placeE, cntE_small]
theorem dec_ev5 : dec [5, 0, 12] = some ev5 := by
  have hD := decP_tells (partsOf 5) (zeroE 5) ev5 [] encs_ev5.2
  have hb := encB_ev5
  unfold encB at hb
  injection hb with _ hb
  have hb' : tellsP (partsOf 5) ev5 = [0, 12] := hb
  rw [List.append_nil, hb'] at hD
  unfold dec
  dsimp only
  rw [if_neg (by decide)]
  show (match decP (partsOf 5) (zeroE 5) [0, 12] with | some (e, []) => some e | _ => none) = _
  rw [hD]
  rfl
theorem EvOK_ev3 : EvOK ev3 := ⟨(zero_ok 3).wt, (zero_ok 3).ints, (zero_ok 3).err, (zero_ok 3).cause⟩
end Go.Proofs.YtkdeleafgailhaaGreatDoor
end
section
set_option linter.unusedVariables false
set_option linter.unusedSimpArgs false
namespace Go.Proofs.YtkdeleafgailhaaGreatDoor
open Go Go.RowKit Go.Proofs.YtkdeleafgailhaaGreatDoorW.PrintWords

def buildA (k : Int) (A : Option Addr) (n c : Nat) : Array Value := #[.int .i64 k, .slice A n c, .int .i64 0, .bool false, .int .i64 0, .bool false, .bool false, .string ⟨#[]⟩, .int .i64 0, .string ⟨#[]⟩, .slice none 0 0, .slice none 0 0, .string ⟨#[]⟩, .string ⟨#[]⟩, .string ⟨#[]⟩, .string ⟨#[]⟩, .int .i64 0]
theorem built2 (k : Int) (A : Option Addr) (n c : Nat) : Tryz.prog.built 48 [(0, .int .i64 k), (1, .slice A n c)] = some (buildA k A n c) := by kernel_rfl
section
variable {o : Oper} {a : Act} {Q : Exit → Act → World → Prop} {K : Act → World → Prop} {w : World}
theorem op_build2 (x y : Operand) (k : Int) (A : Option Addr) (n c : Nat) (ho : o.op = .build 48 #[(0, x), (1, y)]) (hx : a.eval x = .int .i64 k) (hy : a.eval y = .slice A n c) (h : K (a.put o.dst (.agg (buildA k A n c))) w) : o.wp Tryz.prog a w K Q := by
  have e : ((#[(0, x), (1, y)] : Array (Nat × Operand)).map fun (i, x) => (i, a.eval x)).toList = [(0, .int .i64 k), (1, .slice A n c)] := by simp [hx, hy]
  refine wp_build 48 #[(0, x), (1, y)] ho ?_ ?_
  · rw [e, built2]; rfl
  · rw [e, built2]; exact h
end
section
variable {ops : Array Oper} {rest : List Oper} {o : Oper} {a : Act} {Q : Exit → Act → World → Prop} {w : World}
theorem list_build2 (x y : Operand) (k : Int) (A : Option Addr) (n c : Nat) (hgd : o.guard = none) (ho : o.op = .build 48 #[(0, x), (1, y)]) (hx : a.eval x = .int .i64 k) (hy : a.eval y = .slice A n c) (h : wpList Tryz.prog ops Q rest (a.put o.dst (.agg (buildA k A n c))) w) : wpList Tryz.prog ops Q (o :: rest) a w := wpList_plain hgd fun _ hK => op_build2 x y k A n c ho hx hy (hK _ _ h)
end
theorem enc3_any (E : ErrV) (a : Addr) (w : World) (A : Option Addr) (c : Nat) (hP : REnv E a w) (hR : ReadsInt w .i64 A 3 [1, 1, 0]) (hc : 3 ≤ c) :
    Calls Tryz.prog 23 #[.agg (buildA 3 A 3 c)] w fun en w' => ∃ A c, en = .returned (.tuple #[.slice A 5 c, .nilIface]) ∧ ReadsInt w' .u8 A 5 (bint [3, 3, 1, 1, 0]) ∧ Below w.heap.size w w' := by
  have h := enc_yes E a ev3 encs_ev3 w (ev3.cells (.slice A 3 c) nulCells) ⟨A, c, nulCells, rfl, hR, hc, nul_K w⟩ hP EvOK_ev3
  rw [encB_ev3] at h
  refine Calls.mono (show Calls Tryz.prog 23 #[.agg (buildA 3 A 3 c)] w _ from h) ?_
  rintro en w' ⟨A, c, rfl, h1, _, h2⟩
  exact ⟨A, c, rfl, h1, h2⟩
theorem dec5_any (E : ErrV) (a : Addr) (w : World) (A : Option Addr) (c : Nat) (hP : REnv E a w) (hR : ReadsInt w .u8 A 3 (bint [5, 0, 12])) (hc : 3 ≤ c) :
    Calls Tryz.prog 24 #[.slice A 3 c] w fun en w' => ∃ PA pc A lc B ld, en = .returned (.tuple #[.agg (evA ev5 PA pc A lc B ld), .nilIface]) ∧ Below w.heap.size w w' := by
  refine Calls.mono (dec_some E a [5, 0, 12] ev5 dec_ev5 A c w hR hc hP (by decide)) ?_
  rintro en w' ⟨PA, pc, A, lc, B, ld, rfl, _, _, hb⟩
  exact ⟨PA, pc, A, lc, B, ld, rfl, hb⟩
set_option maxRecDepth 100000 in
set_option maxHeartbeats 16000000 in
theorem awake13_any (E : ErrV) (a : Addr) (w : World) (hP : REnv E a w) :
    Calls Tryz.prog 22 #[] w fun en w' => en = .returned (.bool true) ∧ Below w.heap.size w w' := by
  have hb0 := (Below.refl w.heap.size w).alloc (Nat.le_refl _) (.cells #[.int .i64 1, .int .i64 1, .int .i64 0] 3)
  have h0 := hP.below hb0
  have hR0 : ReadsInt (w.alloc (.cells #[.int .i64 1, .int .i64 1, .int .i64 0] 3)) .i64 (some ⟨w.heap.size, 0, none⟩) 3 [1, 1, 0] := ⟨rfl, by decide, fun _ => ⟨_, rfl, fun j hj => by
    have e := cellAll (heap_alloc_new w (.cells #[.int .i64 1, .int .i64 1, .int .i64 0] 3)) j
    have e2 : (⟨w.heap.size, 0, none⟩ : Addr).add j = ⟨w.heap.size, j, none⟩ := by simp [Addr.add]; exact Eq.symm
    rw [e2, e]
    match j, hj with
    | 0, _ => rfl
    | 1, _ => rfl
    | 2, _ => rfl⟩⟩
  have cE := Aside0.mk (enc3_any E a _ _ 3 h0 hR0 (Nat.le_refl _))
  have hR5 : ∀ W : World, ReadsInt (W.alloc (.cells #[.int .u8 5, .int .u8 0, .int .u8 12] 5)) .u8 (some ⟨W.heap.size, 0, none⟩) 3 (bint [5, 0, 12]) := fun W => ⟨rfl, by decide, fun _ => ⟨_, rfl, fun j hj => by
    have e := cellAll (heap_alloc_new W (.cells #[.int .u8 5, .int .u8 0, .int .u8 12] 5)) j
    have e2 : (⟨W.heap.size, 0, none⟩ : Addr).add j = ⟨W.heap.size, j, none⟩ := by simp [Addr.add]; exact Eq.symm
    rw [e2, e]
    match j, hj with
    | 0, _ => rfl
    | 1, _ => rfl
    | 2, _ => rfl⟩⟩
  replace hb0 := Aside0.mk hb0
  replace h0 := Aside0.mk h0
  replace hR5 := Aside0.mk hR5
  clear hP hR0
  go_enter Tryz.func22, Tryz.ntmps22
  go_wp2_with (first
    | ((with_reducible refine list_build2 _ (.tmp 6) 3 _ 3 _ ?o0 ?o1 ?o2 ?o3 ?_); (case o0 => rfl); (case o1 => rfl); (case o2 => rfl); (case o3 => rfl))
    | (go_at_call 23; refine cE.out.mono ?_; clear cE; rintro en w1 ⟨A1, c1, rfl, hR1, hb1⟩; have hB1 := (Below.refl w1.heap.size w1).alloc (Nat.le_refl _) (.cells #[.int .u8 5, .int .u8 0, .int .u8 12] 5); have hL1 := Aside0.mk (hb0.out.trans ((hb1.trans (hB1.mono hb1.size)).mono hb0.out.size)); have h1 := (h0.out.below hb1).below hB1; have cD := Aside0.mk (dec5_any E a _ _ 3 h1 (hR5.out w1) (Nat.le_refl _)); have hR1' := Aside0.mk (ReadsInt.below hR1 hB1); clear hR1 hB1 hR5 h1)
    | (go_at_call 24; refine cD.out.mono ?_; clear cD; rintro en w2 ⟨PA, pc, A, lc, B, ld, rfl, hb2⟩; have hba := low_row (cs := evA ev5 PA pc A lc B ld) ((Below.refl w2.heap.size w2).alloc (Nat.le_refl _) (.cells #[.int .i64 0, .slice none 0 0, .int .i64 0, .bool false, .int .i64 0, .bool false, .bool false, .string ⟨#[]⟩, .int .i64 0, .string ⟨#[]⟩, .slice none 0 0, .slice none 0 0, .string ⟨#[]⟩, .string ⟨#[]⟩, .string ⟨#[]⟩, .string ⟨#[]⟩, .int .i64 0] 48)) (Nat.le_refl _); have hxN := setRow_heap (w2.alloc (.cells #[.int .i64 0, .slice none 0 0, .int .i64 0, .bool false, .int .i64 0, .bool false, .bool false, .string ⟨#[]⟩, .int .i64 0, .string ⟨#[]⟩, .slice none 0 0, .slice none 0 0, .string ⟨#[]⟩, .string ⟨#[]⟩, .string ⟨#[]⟩, .string ⟨#[]⟩, .int .i64 0] 48)) w2.heap.size _ (evA ev5 PA pc A lc B ld) _ _ (heap_alloc_new w2 _); have hq0 : _ = some (Value.int .i64 5) := cellAll hxN 0; have hq2 : _ = some (Value.int .i64 12) := cellAll hxN 2; have hfN := frozenAll hxN; have hcv := conv_bytes (l := [3, 3, 1, 1, 0]) (c := c1) (ReadsInt.below (ReadsInt.below hR1'.out hb2) hba); have hL2 := Aside0.mk (hL1.out.trans ((hb2.trans (hba.mono hb2.size)).mono hL1.out.size)); clear hxN hba)
    | ((with_reducible refine list_store (cs := evA ev5 PA pc A lc B ld) (old := zeroA) (B := w2.heap.size) (.tmp 3) (.tmp 14) ?o0 ?o1 ?o2 ?o3 ?o4 ?o5 ?o6 (evA_one _ _ _ _ _ _ _) ?_); (case o0 => rfl); (case o1 => rfl); (case o2 => rfl); (case o3 => rfl); (case o4 => exact heap_alloc_new w2 _); (case o5 => rfl); (case o6 => rfl)))
  go_ret
  exact ⟨rfl, hL2.out⟩
end Go.Proofs.YtkdeleafgailhaaGreatDoor
end
section
set_option linter.unusedVariables false
set_option linter.unusedSimpArgs false
namespace Go.Proofs.YtkdeleafgailhaaGreatDoor
open Go Go.RowKit Go.Proofs.YtkdeleafgailhaaGreatDoorW.PrintWords

theorem eq_err (a : Addr) (W : World) : (binOp .eql 51 (.iface 228 (.pointer (some a))) (.iface 228 (.pointer (some a)))).run Tryz.prog W = .ok (.bool true) W := by
  obtain ⟨i, hi, hc⟩ := Option.map_eq_some_iff.1 (show (Tryz.prog.info? 228).map (·.comparable) = some true by kernel_rfl)
  obtain ⟨j, hj, _⟩ := Option.map_eq_some_iff.1 (show (Tryz.prog.info? 230).map (·.size) = some 1 by kernel_rfl)
  exact run_eql_iface_ptr_same W a Tryz.underlying51 Tryz.underlying228 hi hc hj

end Go.Proofs.YtkdeleafgailhaaGreatDoor
end
section
set_option linter.unusedVariables false
set_option linter.unusedSimpArgs false
namespace Go.Proofs.YtkdeleafgailhaaGreatDoor
open Go Go.RowKit Go.Proofs.YtkdeleafgailhaaGreatDoorW.PrintWords

theorem EvOK.of {e : Evn} (hf : e.fits) (h : e.out.value.wt ≤ 4194304) : EvOK e := ⟨by omega, fits_ints _ hf.value, hf.err, hf.cause⟩
set_option maxRecDepth 100000 in
set_option maxHeartbeats 32000000 in
/-- Encode does not take the event. -/
theorem recordBack_no (E : ErrV) (a : Addr) (e : Evn) (w : World) (cs : List Value) (cut : Int) (m : UInt8) (hK : EvK w e cs) (hP : REnv E a w) (hf : e.fits) (he : ¬ encs e) :
    Calls Tryz.prog 4 #[.agg cs.toArray, .int .i64 cut, .int .u8 m.toNat] w fun en w' => en = .returned (.bool true) ∧ Below w.heap.size w w' := by
  obtain ⟨PA, pc, A, lc, B, ld, rfl, hR, hV⟩ := hK.open2
  simp only [Array.toArray_toList]
  have hb0 := (Below.refl w.heap.size w).alloc (Nat.le_refl _) (.cells (evA e PA pc A lc B ld) 48)
  have hn0 := heap_alloc_new w (.cells (evA e PA pc A lc B ld) 48)
  have hc0 := cellAll hn0
  have cB := beyond_any e.out.value _ _ (kV.K_below hb0 hV) hf.value
  have cE := fun (W : World) (hb : Below w.heap.size w W) (hok : EvOK e) => enc_no E a e he W _ (hK.below hb) (hP.below hb) hok
  simp only [Array.toArray_toList] at cE
  unfold evA at hb0 hn0 hc0 cB cE ⊢
  unfold valL JV.cells at cB
  have cA := fun (W : World) (hb : Below w.heap.size w W) => awake13_any E a W (hP.below hb)
  have hev := fun (W : World) (hb : Below w.heap.size w W) => (hP.below hb).cell
  have heq := eq_err a
  replace hb0 := Aside0.mk hb0
  replace hn0 := Aside0.mk hn0
  replace cB := Aside0.mk cB
  replace cE := Aside0.mk cE
  replace cA := Aside0.mk cA
  replace hev := Aside0.mk hev
  have hok := Aside0.mk (EvOK.of hf)
  clear hK hP hf he hR hV
  go_enter Tryz.func4, Tryz.ntmps4
  go_wp2_with (first
    | (go_at_call 21; refine cB.out.mono ?_; clear cB; rintro en w1 ⟨bb, rfl, hbb, hb1⟩; have hL1 := Aside0.mk (hb0.out.trans (hb1.mono hb0.out.size)); have hn1 := Aside0.mk ((hb1.block _ (blk_lt hn0.out)).trans hn0.out); replace hbb := Aside0.mk hbb; clear hn0 hc0 hb0)
    | (go_at_call 22; refine (cA.out w1 hL1.out).mono ?_; clear cA; rintro en w2 ⟨rfl, hb2⟩; have hL2 := Aside0.mk (hL1.out.trans (hb2.mono hL1.out.size)); have hn2 := Aside0.mk ((hb2.block _ (blk_lt hn1.out)).trans hn1.out); have hc2 := cellAll hn2.out; clear hn1)
    | ((with_reducible refine list_load (cs := #[.int .i64 e.kind, .slice PA e.place.length pc, .int .i64 e.time, .bool e.out.fine, .int .i64 e.out.value.kind, .bool e.out.value.truth, .bool e.out.value.neg, .string e.out.value.digits, .int .i64 e.out.value.exp, .string e.out.value.text, .slice A e.out.value.list.length lc, .slice B e.out.value.fields.length ld, .string ⟨e.out.err.toArray⟩, .string ⟨e.out.cause.toArray⟩, .string ⟨e.machine.toArray⟩, .string ⟨e.input.toArray⟩, .int .i64 e.fuel]) (B := w.heap.size) (.tmp 3) ?o0 ?o1 ?o2 ?o3 ?o4 ?_); (case o0 => rfl); (case o1 => rfl); (case o2 => rfl); (case o3 => exact hn2.out); (case o4 => rfl))
    | (go_at_call 23; refine (cE.out w2 hL2.out (hok.out (hbb.out (by assumption)))).mono ?_; clear cE; rintro en w3 ⟨hen, hb3⟩; unfold ev at hen; subst hen; have hL3 := Aside0.mk (hL2.out.trans (hb3.mono hL2.out.size)); have hv3 := hev.out w3 hL3.out))
  · go_ret
    exact ⟨rfl, hL1.out⟩
  · go_ret
    exact ⟨rfl, hL3.out⟩
end Go.Proofs.YtkdeleafgailhaaGreatDoor
end
