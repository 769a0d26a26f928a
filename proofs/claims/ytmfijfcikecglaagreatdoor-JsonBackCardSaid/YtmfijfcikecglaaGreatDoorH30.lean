/- voyageref02.printed at objects, and of every value in its one form. voyageref02.Exps is true of every value in its one form. voyageref02.Sound, voyageref02.Print. -/
import Derived.Test.YtmfijfcikecglaaGreatDoorH29
import Derived.Test.YtmfijfcikecglaaGreatDoorH23
import Derived.Test.YtmfijfcikecglaaGreatDoorH27
section
set_option linter.unusedVariables false
set_option linter.unusedSimpArgs false
namespace Go.Proofs.YtmfijfcikecglaaGreatDoor
open Go Go.RowKit Go.Proofs.YtmfijfcikecglaaGreatDoorW.PrintWords

theorem jnF_snoc' (x : JF) (l : List JF) : jnF (l ++ [x]) = if l.length = 0 then quoted x.name ++ (58 :: x.value.put) else jnF l ++ 44 :: (quoted x.name ++ (58 :: x.value.put)) := by
  obtain ⟨nm, v⟩ := x
  exact jnF_snoc nm v l
theorem wtF_one (x : JF) : JV.wtF [x] = 1 + x.name.size + x.value.wt := by
  obtain ⟨nm, v⟩ := x
  rw [JV.wtF, JV.wtF]
  rfl

set_option maxRecDepth 100000 in
set_option maxHeartbeats 8000000 in
theorem printed_obj (w0 w : World) (base : Nat) (v : Value) (L : List UInt8) (hF : Facts w0) (hw : Below w0.heap.size w0 w) (hb0 : w0.heap.size ≤ base) (hbs : base ≤ w.heap.size) (hown : Bytes base w v L) (t ng : Bool) (ds tx : ByteArray) (ex : Int) (A B : Option Addr) (nl c nf d : Nat)
    (xs : List JF) (hC : kF.C w0 B nf xs) (hok : ∀ y ∈ xs, Lib.validD y.name.data.toList = true ∧ PrintedOK y.value) (hwt : JV.wtF xs ≤ 4294967296) (hin : JV.intsF xs) (hl : L.length + 64 * (1 + JV.wtF xs) ≤ 140737488355328) :
    Calls Tryz.prog 42 #[v, .agg #[.int .i64 5, .bool t, .bool ng, .string ds, .int .i64 ex, .string tx, .slice A nl c, .slice B nf d]] w fun e w' => ∃ v', e = .returned v' ∧ Bytes base w' v' (L ++ 123 :: (jnF xs ++ [125])) ∧ Below base w w' ∧ BoxKept w w' := by
  have hlen := hC.1
  have hll := wtF_len xs
  have hnl : nf ≤ 4294967296 := by omega
  obtain ⟨w1, hw1e⟩ : ∃ w1, w.alloc (.cells #[.int .i64 5, .bool t, .bool ng, .string ds, .int .i64 ex, .string tx, .slice A nl c, .slice B nf d] 27) = w1 := ⟨_, rfl⟩
  have hb1 : Below w.heap.size w w1 := by rw [← hw1e]; exact (Below.refl w.heap.size w).alloc (Nat.le_refl _) _
  have hB1' : Below base w w1 := by rw [← hw1e]; exact (Below.refl base w).alloc hbs _
  have hbx : w1.heap[w.heap.size]? = some (.cells #[.int .i64 5, .bool t, .bool ng, .string ds, .int .i64 ex, .string tx, .slice A nl c, .slice B nf d] 27 (0, 0)) := by rw [← hw1e]; exact heap_alloc_new w _
  have hown' := hown.below hb1
  have hK0 := Aside0.mk (BoxKept.of_below hb1)
  have hs1 : base ≤ w1.heap.size := Nat.le_trans hbs hb1.size
  have hc1 := cellAll hbx
  have hbn := (Below.refl w1.heap.size w1).alloc (Nat.le_refl _) (.cells #[.int .u8 123] 5)
  have hRI := reads_new w1 [123] #[.int .u8 123] rfl (by simp)
  replace hbx := Aside0.mk hbx
  replace hlen := Aside0.mk hlen
  clear hb1 hown
  go_enter Tryz.func42, Tryz.ntmps42
  go_wp2_with ((with_reducible refine gate_builtin (b := .append) (xs := #[.tmp 60, .tmp 61]) rfl ?_); at_builtin; refine print_append_row (w0 := w) base rfl (.tmp 60) (.tmp 61) 55 5 .u8 1 rfl Tryz.underlying55 (by kernel_rfl) (by decide) _ (nat8 L) (nat8 [123]) _ 1 1 rfl rfl (hown'.below hbn) hRI (hB1'.trans (hbn.mono hs1)) (Nat.le_trans hs1 hbn.size) (by rw [nat8_len]; omega) ?_; intro v2 w2 hown2 hB2 hg _; have hk2 := (BoxKept.of_below hbn).trans (BoxKept.of_grown (hown'.below hbn) hg); clear hg; rw [← nat8_app] at hown2)
  clear hown' hbn hRI hc1 hs1
  replace hk2 := Aside0.mk hk2
  go_loopw [0, 6] (fun u i wr => ∃ j : Nat, i = .int .i64 j ∧ j ≤ nf ∧ Bytes base wr u (L ++ 123 :: jnF (xs.take j)) ∧ Below base w wr ∧ Aside0 (BoxKept w1 wr)) (fun _ i _ => nf - (intOf i).toNat)
  case atStart => exact ⟨0, rfl, Nat.zero_le _, hown2, hB2, hk2⟩
  case round =>
    obtain ⟨j, rfl, hj, hown3, hB3, hk3⟩ := hrel
    have hbr := hk3.out _ _ hbx.out
    have hcr := cellAll hbr
    have hjl := jnF_len (xs.take j)
    have hsum : JV.wtF xs = JV.wtF (xs.take j) + JV.wtF (xs.drop j) := by rw [← wtF_app, List.take_append_drop]
    have hlj : (L ++ 123 :: jnF (xs.take j)).length ≤ L.length + 1 + 32 * JV.wtF (xs.take j) := by rw [List.length_append, List.length_cons]; omega
    have hsr := Nat.le_trans hbs hB3.size
    have hw3 := hw.trans (hB3.mono hb0)
    replace hbr := Aside0.mk hbr
    by_cases hlt : j < nf
    · obtain ⟨ad, x, A6, c6, A7, c7, rfl, hx, hcs, l6, g6, l7, g7⟩ := at_F hC j hlt
      have hK := kV_mkK l6 g6 l7 g7
      unfold JV.cells at hcs hK
      obtain ⟨q0, q1, q2, q3, q4, q5, q6, q7, q8, _⟩ := hcs
      have hxm : x ∈ xs := List.mem_of_getElem? hx
      have hwx := wt_memF hxm
      have hix := ints_memF hxm hin
      obtain ⟨hvx, hoj⟩ := hok x hxm
      have hqt := quoted_tbs x.name hvx
      have hql := quoted_len2 x.name hvx
      rw [← hqt] at hql
      have hsn : jnF (xs.take (j + 1)) = if j = 0 then quoted x.name ++ (58 :: x.value.put) else jnF (xs.take j) ++ 44 :: (quoted x.name ++ (58 :: x.value.put)) := by
        have hl0 : (xs.take j).length = j := by rw [List.length_take, hlen.out]; omega
        rw [List.take_add_one, hx, Option.toList_some, jnF_snoc', hl0]
      have hw2 : JV.wtF (xs.take j) + (1 + x.name.size + x.value.wt) ≤ JV.wtF xs := by
        have h2 : JV.wtF (xs.take (j + 1)) = JV.wtF (xs.take j) + (1 + x.name.size + x.value.wt) := by
          rw [List.take_add_one, hx, Option.toList_some, wtF_app, wtF_one]
        have h3 : JV.wtF xs = JV.wtF (xs.take (j + 1)) + JV.wtF (xs.drop (j + 1)) := by rw [← wtF_app, List.take_append_drop]
        omega
      have cT := fun W => told02_any x.name W (by omega)
      rw [← hqt] at cT
      obtain ⟨r8, hr⟩ : ∃ r8 : ByteArray, (⟨(quoted x.name).toArray⟩ : ByteArray) = r8 := ⟨_, rfl⟩
      have hr8 : bytesOf r8 = nat8 (quoted x.name) := by rw [← hr]; unfold bytesOf nat8; simp
      have hrl : r8.size = (quoted x.name).length := by rw [← hr, size_mk]
      rw [hr] at cT
      have hSof : ∀ W, Below w0.heap.size w0 W → W.cell? ⟨(ad.add (j * 9)).block, (ad.add (j * 9)).off + (0 + 1), none⟩ = some (.int .i64 x.value.kind) ∧ W.cell? ⟨(ad.add (j * 9)).block, (ad.add (j * 9)).off + (1 + 1), none⟩ = some (.bool x.value.truth) ∧ W.cell? ⟨(ad.add (j * 9)).block, (ad.add (j * 9)).off + (2 + 1), none⟩ = some (.bool x.value.neg) ∧ W.cell? ⟨(ad.add (j * 9)).block, (ad.add (j * 9)).off + (3 + 1), none⟩ = some (.string x.value.digits) ∧ W.cell? ⟨(ad.add (j * 9)).block, (ad.add (j * 9)).off + (4 + 1), none⟩ = some (.int .i64 x.value.exp) ∧ W.cell? ⟨(ad.add (j * 9)).block, (ad.add (j * 9)).off + (5 + 1), none⟩ = some (.string x.value.text) ∧ W.cell? ⟨(ad.add (j * 9)).block, (ad.add (j * 9)).off + (6 + 1), none⟩ = some (.slice A6 x.value.list.length c6) ∧ W.cell? ⟨(ad.add (j * 9)).block, (ad.add (j * 9)).off + (7 + 1), none⟩ = some (.slice A7 x.value.fields.length c7) := fun W hb => ⟨pw_cell_below hb q1, pw_cell_below hb q2, pw_cell_below hb q3, pw_cell_below hb q4, pw_cell_below hb q5, pw_cell_below hb q6, pw_cell_below hb q7, pw_cell_below hb q8⟩
      have hlt2 : (j : Int) < (nf : Int) := by omega
      replace hsn := Aside0.mk hsn
      replace hx := Aside0.mk hx
      replace hsum := Aside0.mk hsum
      replace hqt := Aside0.mk hqt
      replace hr := Aside0.mk hr
      clear hxm q1 q2 q3 q4 q5 q6 q7 q8
      by_cases hj0 : j = 0
      · have hj1 : ¬ (0 : Int) < (j : Int) := by omega
        have hjz : jnF (xs.take j) = [] := by rw [hj0, List.take_zero]; rfl
        rw [hjz] at hown3 hlj
        have pn := pw_cell_below hw3 q0
        have hl7 : (L ++ [123]).length + r8.size ≤ 140737488355328 := by rw [List.length_append]; simp only [List.length_cons, List.length_nil]; omega
        have hl10 : (L ++ [123] ++ quoted x.name).length + 1 ≤ 140737488355328 := by rw [List.length_append, List.length_append]; simp only [List.length_cons, List.length_nil]; omega
        have hlc : (L ++ [123] ++ quoted x.name ++ [58]).length + 64 * x.value.wt ≤ 140737488355328 := by rw [List.length_append, List.length_append, List.length_append]; simp only [List.length_cons, List.length_nil]; omega
        replace hjz := Aside0.mk hjz
        replace hj0 := Aside0.mk hj0
        replace hrl := Aside0.mk hrl
        go_wp2_with (first
          | (go_at_call 42; refine (hoj w0 _ base _ (L ++ [123] ++ quoted x.name ++ [58]) _ hK hF hw11 hb0 hs11 hown11 (by omega) hix hlc).mono ?_; rintro e w6 ⟨v6, rfl, hown6, hB6, hk6⟩)
          | ((with_reducible refine gate_builtin (b := .append) (xs := #[.tmp 84, .tmp 85]) rfl ?_); at_builtin; refine print_append_row (w0 := w) base rfl (.tmp 84) (.tmp 85) 55 5 .u8 1 rfl Tryz.underlying55 (by kernel_rfl) (by decide) _ (nat8 (L ++ [123] ++ quoted x.name)) (nat8 [58]) _ 1 1 rfl rfl (hown10.below hbn10) hRI10 (hB10.trans (hbn10.mono hs10)) (Nat.le_trans hs10 hbn10.size) (by rw [nat8_len]; omega) ?_; intro v11 w11 hown11 hB11 hg _; have hk11 := (BoxKept.of_below hbn10).trans (BoxKept.of_grown (hown10.below hbn10) hg); clear hg; rw [← nat8_app] at hown11; have hs11 := Nat.le_trans hbs hB11.size; have hw11 := hw.trans (hB11.mono hb0); have hc11 := cellAll ((hk7.trans (hk10.trans hk11)) _ _ hbx.out); obtain ⟨p0, p1, p2, p3, p4, p5, p6, p7⟩ := hSof _ hw11)
          | ((with_reducible refine gate_builtin (b := .append) (xs := #[.tmp 75, .tmp 82]) rfl ?_); at_builtin; refine print_append_str (w0 := w) base rfl (.tmp 75) (.tmp 82) 55 9 5 rfl Tryz.underlying55 Tryz.underlying9 (by kernel_rfl) _ (nat8 (L ++ [123])) r8 rfl rfl hown7 hB7 hs7 (by rw [nat8_len]; omega) ?_; intro v10 w10 hown10 hB10 hg; have hk10 := BoxKept.of_grown hown7 hg; clear hg; rw [hr8, ← nat8_app] at hown10; have hown10 : Bytes base w10 v10 (L ++ [123] ++ quoted x.name) := hown10; have hs10 := Nat.le_trans hbs hB10.size; have hbn10 := (Below.refl w10.heap.size w10).alloc (Nat.le_refl _) (.cells #[.int .u8 58] 5); have hRI10 := reads_new w10 [58] #[.int .u8 58] rfl (by simp))
          | (go_at_call 63; refine (cT _).mono ?_; rintro e w7 ⟨rfl, hb7⟩; have hown7 := Bytes.below hown3 hb7; have hB7 := hB3.trans (hb7.mono hsr); have hs7 := Nat.le_trans hsr hb7.size; have hk7 := BoxKept.trans hk3.out (BoxKept.of_below hb7); clear hb7))
        go_roundw
        case rel =>
          refine ⟨j + 1, by go_num, by omega, ?_, hB11.trans (hB6.mono (Nat.le_refl _)), ⟨hk7.trans (hk10.trans (hk11.trans hk6))⟩⟩
          rw [hsn.out, if_pos hj0.out]
          simpa using hown6
        case measure => simp [intOf]; omega
      · have hj1 : (0 : Int) < (j : Int) := by omega
        have hbn := (Below.refl wr.heap.size wr).alloc (Nat.le_refl _) (.cells #[.int .u8 44] 5)
        have hRI := reads_new wr [44] #[.int .u8 44] rfl (by simp)
        have hl7 : (L ++ 123 :: jnF (xs.take j) ++ [44]).length + r8.size ≤ 140737488355328 := by rw [List.length_append]; simp only [List.length_cons, List.length_nil]; omega
        have hl10 : (L ++ 123 :: jnF (xs.take j) ++ [44] ++ quoted x.name).length + 1 ≤ 140737488355328 := by rw [List.length_append, List.length_append]; simp only [List.length_cons, List.length_nil]; omega
        have hlc : (L ++ 123 :: jnF (xs.take j) ++ [44] ++ quoted x.name ++ [58]).length + 64 * x.value.wt ≤ 140737488355328 := by rw [List.length_append, List.length_append, List.length_append]; simp only [List.length_cons, List.length_nil]; omega
        replace hrl := Aside0.mk hrl
        go_wp2_with (first
          | (go_at_call 42; refine (hoj w0 _ base _ (L ++ 123 :: jnF (xs.take j) ++ [44] ++ quoted x.name ++ [58]) _ hK hF hw11 hb0 hs11 hown11 (by omega) hix hlc).mono ?_; rintro e w6 ⟨v6, rfl, hown6, hB6, hk6⟩)
          | ((with_reducible refine gate_builtin (b := .append) (xs := #[.tmp 84, .tmp 85]) rfl ?_); at_builtin; refine print_append_row (w0 := w) base rfl (.tmp 84) (.tmp 85) 55 5 .u8 1 rfl Tryz.underlying55 (by kernel_rfl) (by decide) _ (nat8 (L ++ 123 :: jnF (xs.take j) ++ [44] ++ quoted x.name)) (nat8 [58]) _ 1 1 rfl rfl (hown10.below hbn10) hRI10 (hB10.trans (hbn10.mono hs10)) (Nat.le_trans hs10 hbn10.size) (by rw [nat8_len]; omega) ?_; intro v11 w11 hown11 hB11 hg _; have hk11 := (BoxKept.of_below hbn10).trans (BoxKept.of_grown (hown10.below hbn10) hg); clear hg; rw [← nat8_app] at hown11; have hs11 := Nat.le_trans hbs hB11.size; have hw11 := hw.trans (hB11.mono hb0); have hc11 := cellAll ((hk7.trans (hk10.trans hk11)) _ _ hbx.out); obtain ⟨p0, p1, p2, p3, p4, p5, p6, p7⟩ := hSof _ hw11)
          | ((with_reducible refine gate_builtin (b := .append) (xs := #[.tmp 75, .tmp 82]) rfl ?_); at_builtin; refine print_append_str (w0 := w) base rfl (.tmp 75) (.tmp 82) 55 9 5 rfl Tryz.underlying55 Tryz.underlying9 (by kernel_rfl) _ (nat8 (L ++ 123 :: jnF (xs.take j) ++ [44])) r8 rfl rfl hown7 hB7 hs7 (by rw [nat8_len]; omega) ?_; intro v10 w10 hown10 hB10 hg; have hk10 := BoxKept.of_grown hown7 hg; clear hg; rw [hr8, ← nat8_app] at hown10; have hown10 : Bytes base w10 v10 (L ++ 123 :: jnF (xs.take j) ++ [44] ++ quoted x.name) := hown10; have hs10 := Nat.le_trans hbs hB10.size; have hbn10 := (Below.refl w10.heap.size w10).alloc (Nat.le_refl _) (.cells #[.int .u8 58] 5); have hRI10 := reads_new w10 [58] #[.int .u8 58] rfl (by simp))
          | (go_at_call 63; refine (cT _).mono ?_; rintro e w7 ⟨rfl, hb7⟩; have hown7 := Bytes.below hown5 hb7; have hB7 := hB5.trans (hb7.mono hs5); have hs7 := Nat.le_trans hs5 hb7.size; have hk7 := BoxKept.trans (hk3.out.trans hk5) (BoxKept.of_below hb7); clear hb7)
          | ((with_reducible refine gate_builtin (b := .append) (xs := #[.tmp 72, .tmp 73]) rfl ?_); at_builtin; refine print_append_row (w0 := w) base rfl (.tmp 72) (.tmp 73) 55 5 .u8 1 rfl Tryz.underlying55 (by kernel_rfl) (by decide) _ (nat8 (L ++ 123 :: jnF (xs.take j))) (nat8 [44]) _ 1 1 rfl rfl (hown3.below hbn) hRI (hB3.trans (hbn.mono hsr)) (Nat.le_trans hsr hbn.size) (by rw [nat8_len]; omega) ?_; intro v5 w5 hown5 hB5 hg _; have hk5 := (BoxKept.of_below hbn).trans (BoxKept.of_grown (hown3.below hbn) hg); clear hg; rw [← nat8_app] at hown5; have hs5 := Nat.le_trans hbs hB5.size; have hw5 := hw.trans (hB5.mono hb0); have hc5 := cellAll (hk5 _ _ hbr.out); have pn := pw_cell_below hw5 q0))
        go_roundw
        case rel =>
          refine ⟨j + 1, by go_num, by omega, ?_, hB11.trans (hB6.mono (Nat.le_refl _)), ⟨hk7.trans (hk10.trans (hk11.trans hk6))⟩⟩
          rw [hsn.out, if_neg hj0]
          simpa using hown6
        case measure => simp [intOf]; omega
    · obtain rfl : j = nf := by omega
      have hno : ¬ (j : Int) < (j : Int) := by omega
      have hbn := (Below.refl wr.heap.size wr).alloc (Nat.le_refl _) (.cells #[.int .u8 125] 5)
      have hRI := reads_new wr [125] #[.int .u8 125] rfl (by simp)
      have htk : xs.take j = xs := by rw [← hlen.out, List.take_length]
      rw [htk] at hown3 hlj hjl hsum
      go_wp2_with ((with_reducible refine gate_builtin (b := .append) (xs := #[.tmp 95, .tmp 96]) rfl ?_); at_builtin; refine print_append_row (w0 := w) base rfl (.tmp 95) (.tmp 96) 55 5 .u8 1 rfl Tryz.underlying55 (by kernel_rfl) (by decide) _ (nat8 (L ++ 123 :: jnF xs)) (nat8 [125]) _ 1 1 rfl rfl (hown3.below hbn) hRI (hB3.trans (hbn.mono hsr)) (Nat.le_trans hsr hbn.size) (by rw [nat8_len]; omega) ?_; intro v9 w9 hown9 hB9 hg _; have hk9 := (BoxKept.of_below hbn).trans (BoxKept.of_grown (hown3.below hbn) hg); clear hg; rw [← nat8_app] at hown9)
      go_ret
      refine ⟨_, rfl, ?_, hB9, hK0.out.trans (hk3.out.trans hk9)⟩
      rw [List.append_assoc] at hown9
      exact hown9
theorem printed_step (x : JV) (hx : x.isN) (hl : ∀ y ∈ x.list, PrintedOK y) (hf : ∀ f ∈ x.fields, PrintedOK f.value) : PrintedOK x := by
  intro w0 w base v L cs hK hF hw hb0 hbs hown hwt hin hle
  obtain ⟨A, c, B, d, rfl, hlc, hCl, hfc, hCf⟩ := kV_open hK
  clear hK
  obtain ⟨k, t, ng, ds, ex, tx, l, f⟩ := x
  simp only [JV.list, JV.fields] at *
  rw [JV.wt] at hwt hle
  rw [JV.ints] at hin
  obtain ⟨hik, hie, hil, hif⟩ := hin
  unfold JV.cells
  simp only [JV.kind, JV.truth, JV.neg, JV.digits, JV.exp, JV.text]
  rw [JV.isN] at hx
  rcases hx with ⟨rfl, rfl, rfl, rfl, rfl, rfl, rfl, rfl⟩ | ⟨rfl, rfl, rfl, rfl, rfl, rfl, rfl⟩ | ⟨rfl, rfl, hN, rfl, rfl, rfl⟩ | ⟨rfl, rfl, rfl, rfl, rfl, hv, rfl, rfl⟩ | ⟨rfl, rfl, rfl, rfl, rfl, rfl, hL, rfl⟩ | ⟨rfl, rfl, rfl, rfl, rfl, rfl, rfl, hFs, hr⟩
  · have hp : (JV.mk 0 false false ⟨#[]⟩ 0 ⟨#[]⟩ [] []).put = [110, 117, 108, 108] := by rw [JV.put]; rfl
    rw [hp]
    exact printed_null w base v L hbs hown (by omega) 0 false false ⟨#[]⟩ ⟨#[]⟩ 0 A B _ c _ d (by decide) (by decide) (by decide) (by decide) (by decide)
  · cases t with
    | true =>
      have hp : (JV.mk 1 true false ⟨#[]⟩ 0 ⟨#[]⟩ [] []).put = [116, 114, 117, 101] := by rw [JV.put]; rfl
      rw [hp]
      exact printed_true w base v L hbs hown (by omega) 1 true false ⟨#[]⟩ ⟨#[]⟩ 0 A B _ c _ d
    | false =>
      have hp : (JV.mk 1 false false ⟨#[]⟩ 0 ⟨#[]⟩ [] []).put = [102, 97, 108, 115, 101] := by rw [JV.put]; rfl
      rw [hp]
      exact printed_false w base v L hbs hown (by omega) 1 false false ⟨#[]⟩ ⟨#[]⟩ 0 A B _ c _ d
  · have hp : (JV.mk 2 false ng ds ex ⟨#[]⟩ [] []).put = decText ng ds ex := by rw [JV.put]; rfl
    rw [hp]
    exact printed_num w0 w base v L hF hw hbs hown false ng ds ⟨#[]⟩ ex A B _ c _ d (by omega) hie.1 hie.2 (by omega)
  · have hp : (JV.mk 3 false false ⟨#[]⟩ 0 tx [] []).put = quoted tx := by rw [JV.put]; rfl
    rw [hp, quoted_tbs tx hv]
    exact printed_text w0 w base v L hF hw hbs hown false false ⟨#[]⟩ tx 0 A B _ c _ d hv (by omega) (by omega)
  · rw [put_listJ]
    exact printed_list w0 w base v L hF hw hb0 hbs hown false false ⟨#[]⟩ ⟨#[]⟩ 0 A B _ c _ d l hCl hl (by omega) hil (by omega)
  · rw [put_objJ]
    exact printed_obj w0 w base v L hF hw hb0 hbs hown false false ⟨#[]⟩ ⟨#[]⟩ 0 A B _ c _ d f hCf (fun g hg => ⟨(isNF_iff.1 hFs g hg).1, hf g hg⟩) (by omega) hif (by omega)
theorem printed_all : ∀ (n : Nat) (x : JV), x.wt ≤ n → x.isN → PrintedOK x
  | 0, .mk k t n d e s l f, h, _ => by rw [JV.wt] at h; omega
  | m + 1, .mk k t n d e s l f, h, hx => by
    rw [JV.wt] at h
    have hm : (∀ y ∈ l, y.isN) ∧ (∀ g ∈ f, g.value.isN) := by
      rw [JV.isN] at hx
      rcases hx with ⟨_, _, _, _, _, _, rfl, rfl⟩ | ⟨_, _, _, _, _, rfl, rfl⟩ | ⟨_, _, _, _, rfl, rfl⟩ | ⟨_, _, _, _, _, _, rfl, rfl⟩ | ⟨_, _, _, _, _, _, hL, rfl⟩ | ⟨_, _, _, _, _, _, rfl, hF, _⟩
      · exact ⟨(fun y h => nomatch h), (fun y h => nomatch h)⟩
      · exact ⟨(fun y h => nomatch h), (fun y h => nomatch h)⟩
      · exact ⟨(fun y h => nomatch h), (fun y h => nomatch h)⟩
      · exact ⟨(fun y h => nomatch h), (fun y h => nomatch h)⟩
      · exact ⟨isNL_iff.1 hL, (fun y h => nomatch h)⟩
      · exact ⟨(fun y h => nomatch h), fun g hg => (isNF_iff.1 hF g hg).2⟩
    exact printed_step _ hx (fun y hy => printed_all m y (by have := wt_memL hy; simp only [JV.list] at this; omega) (hm.1 y hy)) (fun g hg => printed_all m _ (by have := wt_memF hg; simp only [JV.fields] at this; omega) (hm.2 g hg))
/-- **voyageref02.printed** of a value in its one form. -/
theorem printed_any (x : JV) (hx : x.isN) : PrintedOK x := printed_all _ x (Nat.le_refl _) hx
end Go.Proofs.YtmfijfcikecglaaGreatDoor
end
section
set_option linter.unusedVariables false
set_option linter.unusedSimpArgs false
namespace Go.Proofs.YtmfijfcikecglaaGreatDoor
open Go Go.RowKit Go.Proofs.YtmfijfcikecglaaGreatDoorW.PrintWords

def ExpsOK (x : JV) : Prop := ∀ (w : World) (cs : List Value), kV.K w x cs → x.wt ≤ 4294967296 → x.ints →
  Calls Tryz.prog 54 #[.agg cs.toArray] w fun e w' => e = .returned (.bool true) ∧ Below w.heap.size w w'
theorem numN_norm {ng : Bool} {ds : ByteArray} {ex : Int} (h : NumN ng ds ex) : decNorm ng ds ex = ⟨ng, ds, ex⟩ := by unfold decNorm; rw [form_numN h]

set_option maxRecDepth 100000 in
set_option maxHeartbeats 4000000 in
theorem exps_flat (w : World) (k : Int) (t ng : Bool) (ds tx : ByteArray) (ex : Int) (A B : Option Addr) (nl c nf d : Nat) (h4 : ¬ k = 4) (h5 : ¬ k = 5) (hs : ds.size ≤ 4294967296) (he0 : -9223372036854775808 ≤ ex) (he1 : ex ≤ 9223372036854775807) (hr : k = 2 → -9999 ≤ (decNorm ng ds ex).exp ∧ (decNorm ng ds ex).exp ≤ 9999) :
    Calls Tryz.prog 54 #[.agg #[.int .i64 k, .bool t, .bool ng, .string ds, .int .i64 ex, .string tx, .slice A nl c, .slice B nf d]] w fun e w' => e = .returned (.bool true) ∧ Below w.heap.size w w' := by
  have hB0 := (Below.refl _ w).alloc (Nat.le_refl _) (.cells #[.int .i64 k, .bool t, .bool ng, .string ds, .int .i64 ex, .string tx, .slice A nl c, .slice B nf d] 27)
  have e0 := heap_alloc_new w (.cells #[.int .i64 k, .bool t, .bool ng, .string ds, .int .i64 ex, .string tx, .slice A nl c, .slice B nf d] 27)
  have cN := fun W => norm01_dec ng ds ex W (by omega) he0 he1
  have b4 : (k == 4) = false := by simpa using h4
  have b5 : (k == 5) = false := by simpa using h5
  generalize decNorm ng ds ex = D at cN hr
  replace hB0 := Aside0.mk hB0
  replace e0 := Aside0.mk e0
  by_cases h2 : k = 2
  · subst h2
    obtain ⟨hr0, hr1⟩ := hr rfl
    have hr2 : ¬ D.exp < -9999 := by omega
    have hr3 : ¬ 9999 < D.exp := by omega
    clear hr
    go_enter Tryz.func54, Tryz.ntmps54
    go_wp2_with (go_at_call 48; refine (cN _).mono ?_; rintro e w' ⟨rfl, hb⟩; have hb0 := (hb.block w.heap.size (by simp)).trans e0.out; have hc0 := cellAll ((heap_alloc_old w' (.cells #[.bool D.neg, .string D.digits, .int .i64 D.exp] 23) (blk_lt hb0)).trans hb0); have hL := Aside0.mk ((hB0.out.trans (hb.mono hB0.out.size)).alloc (hB0.out.trans (hb.mono hB0.out.size)).size (.cells #[.bool D.neg, .string D.digits, .int .i64 D.exp] 23)); clear hb0)
    go_ret
    exact ⟨rfl, hL.out⟩
  · have b2 : (k == 2) = false := by simpa using h2
    clear hr
    go_enter Tryz.func54, Tryz.ntmps54
    go_wp2_with (go_at_call 48; refine (cN _).mono ?_; rintro e w' ⟨rfl, hb⟩; have hb0 := (hb.block w.heap.size (by simp)).trans e0.out; have hc0 := cellAll ((heap_alloc_old w' (.cells #[.bool D.neg, .string D.digits, .int .i64 D.exp] 23) (blk_lt hb0)).trans hb0); have hL := Aside0.mk ((hB0.out.trans (hb.mono hB0.out.size)).alloc (hB0.out.trans (hb.mono hB0.out.size)).size (.cells #[.bool D.neg, .string D.digits, .int .i64 D.exp] 23)); clear hb0)
    go_ret
    exact ⟨rfl, hL.out⟩

set_option maxRecDepth 100000 in
set_option maxHeartbeats 4000000 in
theorem exps_list (w : World) (t ng : Bool) (ds tx : ByteArray) (ex : Int) (A B : Option Addr) (c nf d : Nat) (l : List JV) (hC : kV.C w A l.length l) (hs : ds.size ≤ 4294967296) (hl : l.length ≤ 4294967296) (he0 : -9223372036854775808 ≤ ex) (he1 : ex ≤ 9223372036854775807) (hok : ∀ y ∈ l, ExpsOK y ∧ y.wt ≤ 4294967296 ∧ y.ints) :
    Calls Tryz.prog 54 #[.agg #[.int .i64 4, .bool t, .bool ng, .string ds, .int .i64 ex, .string tx, .slice A l.length c, .slice B nf d]] w fun e w' => e = .returned (.bool true) ∧ Below w.heap.size w w' := by
  have hB0 := (Below.refl _ w).alloc (Nat.le_refl _) (.cells #[.int .i64 4, .bool t, .bool ng, .string ds, .int .i64 ex, .string tx, .slice A l.length c, .slice B nf d] 27)
  have e0 := heap_alloc_new w (.cells #[.int .i64 4, .bool t, .bool ng, .string ds, .int .i64 ex, .string tx, .slice A l.length c, .slice B nf d] 27)
  have cN := fun W => norm01_dec ng ds ex W (by omega) he0 he1
  generalize decNorm ng ds ex = D at cN
  replace hB0 := Aside0.mk hB0
  replace e0 := Aside0.mk e0
  go_enter Tryz.func54, Tryz.ntmps54
  go_wp2_with (go_at_call 48; refine (cN _).mono ?_; rintro e w' ⟨rfl, hb⟩; have hb0 := (hb.block w.heap.size (by simp)).trans e0.out; have hb1 := Aside0.mk ((heap_alloc_old w' (.cells #[.bool D.neg, .string D.digits, .int .i64 D.exp] 23) (blk_lt hb0)).trans hb0); have hc0 := cellAll hb1.out; have hL := Aside0.mk ((hB0.out.trans (hb.mono hB0.out.size)).alloc (hB0.out.trans (hb.mono hB0.out.size)).size (.cells #[.bool D.neg, .string D.digits, .int .i64 D.exp] 23)); clear hb0)
  obtain ⟨W2, hW2⟩ : ∃ W2, w'.alloc (.cells #[.bool D.neg, .string D.digits, .int .i64 D.exp] 23) = W2 := ⟨_, rfl⟩
  rw [hW2] at hL hb1 ⊢
  clear hW2 hc0
  go_loopw [4] (fun i wr => ∃ j : Nat, i = .int .i64 j ∧ j ≤ l.length ∧ Below W2.heap.size W2 wr) (fun i _ => l.length - (intOf i).toNat)
  case atStart => exact ⟨0, rfl, Nat.zero_le _, Below.refl _ _⟩
  case round =>
    obtain ⟨j, rfl, hj, hB⟩ := hrel
    have hcr := cellAll ((hB.block _ (blk_lt hb1.out)).trans hb1.out)
    by_cases hlt : j < l.length
    · obtain ⟨ad, x, A6, c6, A7, c7, rfl, hx, hcs, l6, g6, l7, g7⟩ := at_V (Kd.C_below (Kd.C_below hC hL.out) (hB.mono (Nat.le_refl _))) j hlt
      have hK := kV_mkK l6 g6 l7 g7
      unfold JV.cells at hcs hK
      obtain ⟨q0, q1, q2, q3, q4, q5, q6, q7, _⟩ := hcs
      obtain ⟨ho, hw, hi⟩ := hok x (List.mem_of_getElem? hx)
      have cE := Aside0.mk (ho wr _ hK hw hi)
      clear hK ho hx
      go_wp2_with (go_at_call 54; refine cE.out.mono ?_; rintro e w3 ⟨rfl, hb3⟩)
      go_roundw
      case rel => exact ⟨j + 1, by go_num, by omega, hB.trans (hb3.mono hB.size)⟩
      case measure => simp [intOf]; omega
    · obtain rfl : j = l.length := by omega
      go_wp2_with fail
      go_ret
      exact ⟨rfl, hL.out.trans (hB.mono hL.out.size)⟩

set_option maxRecDepth 100000 in
set_option maxHeartbeats 4000000 in
theorem exps_obj (w : World) (t ng : Bool) (ds tx : ByteArray) (ex : Int) (A B : Option Addr) (c nf d : Nat) (l : List JF) (hC : kF.C w B l.length l) (hs : ds.size ≤ 4294967296) (hl : l.length ≤ 4294967296) (he0 : -9223372036854775808 ≤ ex) (he1 : ex ≤ 9223372036854775807) (hok : ∀ y ∈ l, ExpsOK y.value ∧ y.value.wt ≤ 4294967296 ∧ y.value.ints) :
    Calls Tryz.prog 54 #[.agg #[.int .i64 5, .bool t, .bool ng, .string ds, .int .i64 ex, .string tx, .slice A nf c, .slice B l.length d]] w fun e w' => e = .returned (.bool true) ∧ Below w.heap.size w w' := by
  have hB0 := (Below.refl _ w).alloc (Nat.le_refl _) (.cells #[.int .i64 5, .bool t, .bool ng, .string ds, .int .i64 ex, .string tx, .slice A nf c, .slice B l.length d] 27)
  have e0 := heap_alloc_new w (.cells #[.int .i64 5, .bool t, .bool ng, .string ds, .int .i64 ex, .string tx, .slice A nf c, .slice B l.length d] 27)
  have cN := fun W => norm01_dec ng ds ex W (by omega) he0 he1
  generalize decNorm ng ds ex = D at cN
  replace hB0 := Aside0.mk hB0
  replace e0 := Aside0.mk e0
  go_enter Tryz.func54, Tryz.ntmps54
  go_wp2_with (go_at_call 48; refine (cN _).mono ?_; rintro e w' ⟨rfl, hb⟩; have hb0 := (hb.block w.heap.size (by simp)).trans e0.out; have hb1 := Aside0.mk ((heap_alloc_old w' (.cells #[.bool D.neg, .string D.digits, .int .i64 D.exp] 23) (blk_lt hb0)).trans hb0); have hc0 := cellAll hb1.out; have hL := Aside0.mk ((hB0.out.trans (hb.mono hB0.out.size)).alloc (hB0.out.trans (hb.mono hB0.out.size)).size (.cells #[.bool D.neg, .string D.digits, .int .i64 D.exp] 23)); clear hb0)
  obtain ⟨W2, hW2⟩ : ∃ W2, w'.alloc (.cells #[.bool D.neg, .string D.digits, .int .i64 D.exp] 23) = W2 := ⟨_, rfl⟩
  rw [hW2] at hL hb1 ⊢
  clear hW2 hc0
  go_loopw [6] (fun i wr => ∃ j : Nat, i = .int .i64 j ∧ j ≤ l.length ∧ Below W2.heap.size W2 wr) (fun i _ => l.length - (intOf i).toNat)
  case atStart => exact ⟨0, rfl, Nat.zero_le _, Below.refl _ _⟩
  case round =>
    obtain ⟨j, rfl, hj, hB⟩ := hrel
    have hcr := cellAll ((hB.block _ (blk_lt hb1.out)).trans hb1.out)
    by_cases hlt : j < l.length
    · obtain ⟨ad, x, A6, c6, A7, c7, rfl, hx, hcs, l6, g6, l7, g7⟩ := at_F (Kd.C_below (Kd.C_below hC hL.out) (hB.mono (Nat.le_refl _))) j hlt
      have hK := kV_mkK l6 g6 l7 g7
      unfold JV.cells at hcs hK
      obtain ⟨q0, q1, q2, q3, q4, q5, q6, q7, q8, _⟩ := hcs
      obtain ⟨ho, hw, hi⟩ := hok x (List.mem_of_getElem? hx)
      have cE := Aside0.mk (ho wr _ hK hw hi)
      clear hK ho hx
      go_wp2_with (go_at_call 54; refine cE.out.mono ?_; rintro e w3 ⟨rfl, hb3⟩)
      go_roundw
      case rel => exact ⟨j + 1, by go_num, by omega, hB.trans (hb3.mono hB.size)⟩
      case measure => simp [intOf]; omega
    · obtain rfl : j = l.length := by omega
      go_wp2_with fail
      go_ret
      exact ⟨rfl, hL.out.trans (hB.mono hL.out.size)⟩
theorem exps_step (x : JV) (hx : x.isN) (hl : ∀ y ∈ x.list, ExpsOK y) (hf : ∀ f ∈ x.fields, ExpsOK f.value) : ExpsOK x := by
  intro w cs hK hwt hin
  obtain ⟨A, c, B, d, rfl, hlc, hCl, hfc, hCf⟩ := kV_open hK
  clear hK
  obtain ⟨k, t, ng, ds, ex, tx, l, f⟩ := x
  simp only [JV.list, JV.fields] at *
  have hl1 := wtL_len l
  have hl2 := wtF_len f
  rw [JV.wt] at hwt
  rw [JV.ints] at hin
  obtain ⟨hik, hie, hil, hif⟩ := hin
  have hr : k = 2 → -9999 ≤ (decNorm ng ds ex).exp ∧ (decNorm ng ds ex).exp ≤ 9999 := by
    intro h2
    have hN : NumN ng ds ex := by
      rw [JV.isN] at hx
      rcases hx with ⟨h, _⟩ | ⟨h, _⟩ | ⟨_, _, h, _⟩ | ⟨h, _⟩ | ⟨h, _⟩ | ⟨h, _⟩
      · omega
      · omega
      · exact h
      · omega
      · omega
      · omega
    have := numN_norm hN
    rw [this]
    unfold NumN at hN
    rcases hN with hN | hN
    · simp_all
    · simp_all
  unfold JV.cells
  simp only [JV.kind, JV.truth, JV.neg, JV.digits, JV.exp, JV.text]
  by_cases h4 : k = 4
  · subst h4
    exact exps_list w t ng ds tx ex A B c _ d l hCl (by omega) (by omega) hie.1 hie.2 (fun y hy => ⟨hl y hy, by have := wt_memL hy; omega, ints_memL hy hil⟩)
  by_cases h5 : k = 5
  · subst h5
    exact exps_obj w t ng ds tx ex A B c _ d f hCf (by omega) (by omega) hie.1 hie.2 (fun y hy => ⟨hf y hy, by have := wt_memF hy; omega, ints_memF hy hif⟩)
  exact exps_flat w k t ng ds tx ex A B _ c _ d h4 h5 (by omega) hie.1 hie.2 hr
theorem exps_all : ∀ (n : Nat) (x : JV), x.wt ≤ n → x.isN → ExpsOK x
  | 0, .mk k t n d e s l f, h, _ => by rw [JV.wt] at h; omega
  | m + 1, .mk k t n d e s l f, h, hx => by
    rw [JV.wt] at h
    have hm : (∀ y ∈ l, y.isN) ∧ (∀ g ∈ f, g.value.isN) := by
      rw [JV.isN] at hx
      rcases hx with ⟨_, _, _, _, _, _, rfl, rfl⟩ | ⟨_, _, _, _, _, rfl, rfl⟩ | ⟨_, _, _, _, rfl, rfl⟩ | ⟨_, _, _, _, _, _, rfl, rfl⟩ | ⟨_, _, _, _, _, _, hL, rfl⟩ | ⟨_, _, _, _, _, _, rfl, hF, _⟩
      · exact ⟨(fun y h => nomatch h), (fun y h => nomatch h)⟩
      · exact ⟨(fun y h => nomatch h), (fun y h => nomatch h)⟩
      · exact ⟨(fun y h => nomatch h), (fun y h => nomatch h)⟩
      · exact ⟨(fun y h => nomatch h), (fun y h => nomatch h)⟩
      · exact ⟨isNL_iff.1 hL, (fun y h => nomatch h)⟩
      · exact ⟨(fun y h => nomatch h), fun g hg => (isNF_iff.1 hF g hg).2⟩
    exact exps_step _ hx (fun y hy => exps_all m y (by have := wt_memL hy; simp only [JV.list] at this; omega) (hm.1 y hy)) (fun g hg => exps_all m _ (by have := wt_memF hg; simp only [JV.fields] at this; omega) (hm.2 g hg))
/-- **voyageref02.Exps** at one forms. -/
theorem exps_any (x : JV) (hx : x.isN) : ExpsOK x := exps_all _ x (Nat.le_refl _) hx
end Go.Proofs.YtmfijfcikecglaaGreatDoor
end
section
set_option linter.unusedVariables false
set_option linter.unusedSimpArgs false
namespace Go.Proofs.YtmfijfcikecglaaGreatDoor
open Go Go.RowKit Go.Proofs.YtmfijfcikecglaaGreatDoorW.PrintWords

theorem rdepth_same2 (x : JV) (hn : x.norm = x) (w : World) (cs : List Value) (hK : kV.K w x cs) (hwt : x.wt ≤ 4294967296) (hin : x.ints) : Calls Tryz.prog 24 #[.agg cs.toArray] w fun e w' => e = .returned (.int .i64 x.deep) ∧ Below w.heap.size w w' := by
  have h := rdepth_any x w cs hK hwt (by rw [hn]; exact hwt) hin
  rw [hn] at h
  exact h

set_option maxRecDepth 100000 in
set_option maxHeartbeats 4000000 in
/-- **voyageref02.Sound.** -/
theorem sound_any (x : JV) (w : World) (cs : List Value) (hK : kV.K w x cs) (hF : Facts w) (hwt : x.wt ≤ 1073741824) (hin : x.ints) :
    Calls Tryz.prog 28 #[.agg cs.toArray] w fun e w' => e = .returned (.bool (decide (x.norm.deep ≤ 64) && decide (x.norm.put.length ≤ 1048576))) ∧ Below w.heap.size w w' := by
  have cX := fun (W : World) (hb : Below w.heap.size w W) => rnorm_any x W cs (kV.K_below hb hK) (by omega) hin
  have hNy := norm_isN x
  have hny := norm_norm x
  have hiy := norm_ints x
  have hwy := norm_wt x
  obtain ⟨A, c, B, d, rfl, _⟩ := kV_open hK
  unfold JV.cells at cX ⊢
  generalize x.norm = y at *
  have hB0 := Aside0.mk ((Below.refl _ w).alloc (Nat.le_refl _) (.cells #[.int .i64 x.kind, .bool x.truth, .bool x.neg, .string x.digits, .int .i64 x.exp, .string x.text, .slice A x.list.length c, .slice B x.fields.length d] 27))
  have hF0 := Aside0.mk hF
  clear hK hF
  by_cases hd : y.deep ≤ 64
  · rw [decide_eq_true hd, Bool.true_and]
    have hd2 : (y.deep : Int) ≤ 64 := by omega
    have hq : decide (y.put.length ≤ 1048576) = decide ((y.put.length : Int) ≤ 1048576) := by
      congr 1; exact propext (by omega)
    rw [hq]
    clear hq
    replace hd := Aside0.mk hd
    generalize hpn : y.put.length = pn at *
    go_enter Tryz.func28, Tryz.ntmps28
    go_wp2_with (first
      | (go_at_call 42; refine (printed_any y hNy _ _ _ (.slice none 0 0) [] _ hK4.out (hF0.out.below hL4.out) (Below.refl _ _) (Nat.le_refl _) (Nat.le_refl _) (own_nil _ _ _ _) (by omega) hiy (by simp only [List.length_nil]; omega)).mono ?_; rintro e w5 ⟨v5, rfl, hown5, hb5, _⟩; obtain ⟨A5, c5, rfl, _⟩ := own_reads hown5; rw [List.nil_append, nat8_len]; clear hown5; have hL5 := Aside0.mk (hL4.out.trans (hb5.mono hL4.out.size)))
      | (go_at_call 24; refine (rdepth_same2 y hny _ _ hK3.out (by omega) hiy).mono ?_; rintro e w4 ⟨rfl, hb4⟩; clear hc3; have hx4 := Aside0.mk ((hb4.block _ (blk_lt hx3.out)).trans hx3.out); have hc4 := cellAll hx4.out; have hK4 := Aside0.mk (kV.K_below hb4 hK3.out); have hL4 := Aside0.mk (hL3.out.trans (hb4.mono hL3.out.size)); clear hb4)
      | (go_at_call 54; refine (exps_any y hNy _ _ hK2.out (by omega) hiy).mono ?_; rintro e w3 ⟨rfl, hb3⟩; have hx3 := Aside0.mk ((hb3.block _ (blk_lt hx2.out)).trans hx2.out); have hc3 := cellAll hx3.out; have hK3 := Aside0.mk (kV.K_below hb3 hK2.out); have hL3 := Aside0.mk (hL2.out.trans (hb3.mono hL2.out.size)); clear hb3)
      | (go_at_call 23; refine (cX _ hB0.out).mono ?_; rintro e w1 ⟨cs1, rfl, hM1, hb1⟩; obtain ⟨vl, vf, rfl, hRl, hRf⟩ := kV_openM hM1; unfold JV.cells at hM1; obtain ⟨Al, cl, rfl⟩ := Kd.R_slice hRl; obtain ⟨Af, cf, rfl⟩ := Kd.R_slice hRf; have hK1 := kV.K_of_M hM1; unfold JV.cells; clear hRl hRf hM1; have hB2 := (Below.refl w1.heap.size w1).alloc (Nat.le_refl _) (.cells #[.int .i64 y.kind, .bool y.truth, .bool y.neg, .string y.digits, .int .i64 y.exp, .string y.text, .slice Al y.list.length cl, .slice Af y.fields.length cf] 27); have hK2 := Aside0.mk (kV.K_below hB2 hK1); have hx2 := Aside0.mk (heap_alloc_new w1 (.cells #[.int .i64 y.kind, .bool y.truth, .bool y.neg, .string y.digits, .int .i64 y.exp, .string y.text, .slice Al y.list.length cl, .slice Af y.fields.length cf] 27)); have hL2 := Aside0.mk (hB0.out.trans ((hb1.trans (hB2.mono hb1.size)).mono hB0.out.size)); clear hK1 hb1 hB2))
    go_ret
    exact ⟨rfl, hL5.out⟩
  · rw [decide_eq_false hd, Bool.false_and]
    have hd2 : ¬ (y.deep : Int) ≤ 64 := by omega
    go_enter Tryz.func28, Tryz.ntmps28
    go_wp2_with (first
      | (go_at_call 24; refine (rdepth_same2 y hny _ _ hK3.out (by omega) hiy).mono ?_; rintro e w4 ⟨rfl, hb4⟩; clear hc3; have hx4 := Aside0.mk ((hb4.block _ (blk_lt hx3.out)).trans hx3.out); have hc4 := cellAll hx4.out; have hK4 := Aside0.mk (kV.K_below hb4 hK3.out); have hL4 := Aside0.mk (hL3.out.trans (hb4.mono hL3.out.size)); clear hb4)
      | (go_at_call 54; refine (exps_any y hNy _ _ hK2.out (by omega) hiy).mono ?_; rintro e w3 ⟨rfl, hb3⟩; have hx3 := Aside0.mk ((hb3.block _ (blk_lt hx2.out)).trans hx2.out); have hc3 := cellAll hx3.out; have hK3 := Aside0.mk (kV.K_below hb3 hK2.out); have hL3 := Aside0.mk (hL2.out.trans (hb3.mono hL2.out.size)); clear hb3)
      | (go_at_call 23; refine (cX _ hB0.out).mono ?_; rintro e w1 ⟨cs1, rfl, hM1, hb1⟩; obtain ⟨vl, vf, rfl, hRl, hRf⟩ := kV_openM hM1; unfold JV.cells at hM1; obtain ⟨Al, cl, rfl⟩ := Kd.R_slice hRl; obtain ⟨Af, cf, rfl⟩ := Kd.R_slice hRf; have hK1 := kV.K_of_M hM1; unfold JV.cells; clear hRl hRf hM1; have hB2 := (Below.refl w1.heap.size w1).alloc (Nat.le_refl _) (.cells #[.int .i64 y.kind, .bool y.truth, .bool y.neg, .string y.digits, .int .i64 y.exp, .string y.text, .slice Al y.list.length cl, .slice Af y.fields.length cf] 27); have hK2 := Aside0.mk (kV.K_below hB2 hK1); have hx2 := Aside0.mk (heap_alloc_new w1 (.cells #[.int .i64 y.kind, .bool y.truth, .bool y.neg, .string y.digits, .int .i64 y.exp, .string y.text, .slice Al y.list.length cl, .slice Af y.fields.length cf] 27)); have hL2 := Aside0.mk (hB0.out.trans ((hb1.trans (hB2.mono hb1.size)).mono hB0.out.size)); clear hK1 hb1 hB2))
    go_ret
    exact ⟨rfl, hL4.out⟩

end Go.Proofs.YtmfijfcikecglaaGreatDoor
end
