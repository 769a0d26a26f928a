/- voyageref02.put is insF on rising fields. voyageref02.Norm at truths, numbers, texts and all else. voyageref02.Norm at lists. -/
import Derived.Test.YtkdeleafgailhaaGreatDoorH26
import Derived.Test.YtkdeleafgailhaaGreatDoorH25
import Derived.Laws.Cover1
section
set_option linter.unusedVariables false
set_option linter.unusedSimpArgs false
namespace Go.Proofs.YtkdeleafgailhaaGreatDoor
open Go Go.RowKit Go.Proofs.YtkdeleafgailhaaGreatDoorW.PrintWords

theorem less_cmp : ∀ (a b : List UInt8), Op.bytesLess a b = decide (Lib.compareBytes a b < 0)
  | [], [] => rfl
  | [], _ :: _ => rfl
  | _ :: _, [] => rfl
  | a :: x, b :: y => by
    rw [Op.bytesLess, Lib.compareBytes, less_cmp x y]
    by_cases h1 : a < b
    · simp [h1]
    · by_cases h2 : b < a
      · have : ¬ a = b := fun e => by subst e; exact h1 h2
        simp [h1, h2, this]
      · have : a = b := UInt8.le_antisymm (UInt8.not_lt.1 h2) (UInt8.not_lt.1 h1)
        simp [h1, h2, this]
theorem less_B (a b : ByteArray) : Op.bytesLess a.toList b.toList = lessB a b := by
  rw [less_cmp, toList_eq, toList_eq]; rfl


theorem low_drewN {B : Nat} {a w : World} (h : Below B a w) (n : Nat) : Below B a (w.drewN n) := h.trans ⟨rfl, rfl, rfl, Nat.le_refl _, fun _ _ => rfl⟩
theorem put_own {v v1 : Value} {W : World} {B : Nat} (hat : v1.ownBlock = v.ownBlock ∨ ∃ b, v1.ownBlock = some b ∧ W.heap.size ≤ b) (hq : ∀ k, v.ownBlock = some k → B ≤ k) (hB : B ≤ W.heap.size) : ∀ k, v1.ownBlock = some k → B ≤ k := by
  intro k hk
  rcases hat with h | ⟨b, hb, hle⟩
  · rw [h] at hk; exact hq k hk
  · rw [hb] at hk
    injection hk with hk
    omega
set_option maxRecDepth 100000 in
set_option maxHeartbeats 8000000 in
theorem put01_any (base : Nat) (v : Value) (xs : List JF) (nm : ByteArray) (y : JV) (vl vf : Value) (w : World) (hR : kF.R 69 w base (fun _ => True) v xs) (hM : kV.M w base (fun _ => True) y (y.cells vl vf)) (hrise : Rising xs) (hbase : base ≤ w.heap.size) (hn : xs.length ≤ 4294967296) :
    Calls Tryz.prog 39 #[v, .agg (.string nm :: y.cells vl vf).toArray] w fun e w' => ∃ v1, e = .returned v1 ∧ kF.R 69 w' base (fun _ => True) v1 (insF xs nm y) ∧ Below w.heap.size w w' := by
  obtain ⟨VA, vc, rfl⟩ := Kd.R_slice hR
  have hspot := insF_spot hrise nm y
  have hpart := rising_part hrise nm
  obtain ⟨p, hp⟩ : ∃ p, spot xs nm = p := ⟨_, rfl⟩
  rw [hp] at hspot hpart
  have hafter : ∀ k x, xs[k]? = some x → p < k → x.name ≠ nm := by
    intro k x hx hk he
    have hlk : k < xs.length := by
      rcases Nat.lt_or_ge k xs.length with h | h
      · exact h
      · rw [List.getElem?_eq_none h] at hx; cases hx
    have hxp : xs[p]? = some (xs[p]'(by omega)) := List.getElem?_eq_getElem (by omega)
    have h1 := List.pairwise_iff_getElem.1 hrise p k (by omega) hlk hk
    have h2 := hpart.not p _ hxp (Nat.le_refl _)
    have hxk : xs[k]'hlk = x := by
      rw [List.getElem?_eq_getElem hlk] at hx
      injection hx
    rw [hxk, he, h2] at h1
    cases h1
  unfold JV.cells at hM ⊢
  obtain ⟨W0, hW0⟩ : ∃ W0, w.alloc (.cells #[.string nm, .int .i64 y.kind, .bool y.truth, .bool y.neg, .string y.digits, .int .i64 y.exp, .string y.text, vl, vf] 69) = W0 := ⟨_, rfl⟩
  have hs0 : W0.heap.size = w.heap.size + 1 := by rw [← hW0]; exact Array.size_push _
  have hB0 : Below w.heap.size w W0 := by rw [← hW0]; exact (Below.refl _ w).alloc (Nat.le_refl _) _
  have hbx : W0.heap[w.heap.size]? = some (.cells #[.string nm, .int .i64 y.kind, .bool y.truth, .bool y.neg, .string y.digits, .int .i64 y.exp, .string y.text, vl, vf] 69 (0, 0)) := by rw [← hW0]; exact heap_alloc_new w _
  have hR0 : kF.R 69 W0 base (fun k => k < W0.heap.size) (.slice VA xs.length vc) xs := Kd.R_mono (Kd.R_bound (Kd.R_below hR hB0)) (fun k hk => hk.2.2.1)
  have hM0 : kV.M W0 base (fun k => k < W0.heap.size) y [.int .i64 y.kind, .bool y.truth, .bool y.neg, .string y.digits, .int .i64 y.exp, .string y.text, vl, vf] := kV.M_mono (fun k hk => hk.2.2.1) (kV.M_bound (Kd.M_below hM hB0))
  have hRend := Kd.R_below hR hB0
  clear hR hM
  obtain ⟨n, hnl⟩ : ∃ n, xs.length = n := ⟨_, rfl⟩
  have hple := hpart.le
  rw [hnl] at hR0 hn hple hRend ⊢
  replace hnl := Aside0.mk hnl
  replace hspot := Aside0.mk hspot
  replace hpart := Aside0.mk hpart
  replace hB0 := Aside0.mk hB0
  replace hbx := Aside0.mk hbx
  replace hRend := Aside0.mk hRend
  replace hp := Aside0.mk hp
  go_enter Tryz.func39, Tryz.ntmps39
  go_wp2_with fail
  go_loopw [5, 6, 7] (fun q0 b0 i wr => ∃ (j : Nat) (q b : Value), i = .int .i64 j ∧ q = q0 ∧ b = b0 ∧ j ≤ n ∧ (∀ k, q.ownBlock = some k → W0.heap.size ≤ k) ∧ Below W0.heap.size W0 wr ∧ ((j ≤ p ∧ b = .bool false ∧ kF.R 69 wr base (fun _ => True) q (xs.take j)) ∨ (p < j ∧ b = .bool true ∧ (xs[p]?).any (fun f => sameB f.name nm) = false ∧ kF.R 69 wr base (fun _ => True) q (xs.take p ++ JF.mk nm y :: (xs.take j).drop p)))) (fun _ _ i _ => n - (intOf i).toNat)
  case atStart => exact ⟨0, _, _, rfl, rfl, rfl, Nat.zero_le _, (fun k hk => by simp [Value.ownBlock] at hk), Below.refl _ _, .inl ⟨Nat.zero_le _, rfl, R_nilF _ _ _⟩⟩
  case round =>
    obtain ⟨j, q, b, rfl, hqe, hbe, hj, hq, hB, hst⟩ := hrel
    subst hqe hbe
    have hbf := (hB.block w.heap.size (by omega)).trans hbx.out
    have hcf := cellAll hbf
    replace hbf := Aside0.mk hbf
    have hwm : base ≤ wr.heap.size := by have := hB.size; omega
    have hMf := hM0
    have hMw := kV.M_below hM0 hB
    by_cases hjn : j < n
    · obtain ⟨ad, c, x, A6, c6, A7, c7, hv, hx, hcs, hMx⟩ := at_FM (Kd.R_below hR0 hB) j (by rw [hnl.out]; exact hjn)
      obtain rfl : VA = some ad := by injection hv
      clear hv
      unfold JV.cells at hcs hMx
      obtain ⟨q0, q1, q2, q3, q4, q5, q6, q7, q8, _⟩ := hcs
      replace hMx := kV.M_mono (fun k hk => hk.1) hMx
      have htk : xs.take (j + 1) = xs.take j ++ [x] := by rw [List.take_add_one, hx, Option.toList_some]
      have hlk : (xs.take j).length = j := by rw [List.length_take, hnl.out]; omega
      have hlp : (xs.take p).length = p := by rw [List.length_take, hnl.out]; omega
      replace htk := Aside0.mk htk
      replace hlk := Aside0.mk hlk
      replace hlp := Aside0.mk hlp
      replace hMx := Aside0.mk hMx
      replace hMw := Aside0.mk hMw
      have hj1 : (j : Int) < (n : Int) := by omega
      have hj0 : (0 : Int) ≤ (j : Int) := by omega
      rcases Nat.lt_trichotomy j p with hlt | heqp | hgt
      · obtain ⟨_, rfl, hRq⟩ : j ≤ p ∧ b = .bool false ∧ kF.R 69 wr base (fun _ => True) q (xs.take j) := hst.elim id (fun h => absurd h.1 (by omega))
        clear hst
        have hless := hpart.out.less j x hx hlt
        have hne : x.name ≠ nm := fun e => by rw [e, lessB_irrefl] at hless; cases hless
        have heq := bytes_beq_no hne
        have hte := bytes_tne hne
        have hbl : Op.bytesLess x.name.toList nm.toList = true := by rw [less_B]; exact hless
        replace hx := Aside0.mk hx
        replace hless := Aside0.mk hless
        replace hne := Aside0.mk hne
        replace hRq := Aside0.mk hRq
        clear hMf
        have hMf := hM0
        go_wp2_with fail
        go_quiet (fail)
        go_wp2_with fail
        go_quiet (fail)
        go_wp2_with (first
          | ((with_reducible refine gate_builtin (b := .append) (xs := #[.tmp 39, .tmp 44]) rfl ?_); at_builtin; refine Kd.R_append kF (w0 := W0) base rfl (.tmp 39) (.tmp 44) 25 69 zF 128 rfl Tryz.underlying25 infoF rfl (by decide) (by omega) q (xs.take j) x [.string x.name, .int .i64 x.value.kind, .bool x.value.truth, .bool x.value.neg, .string x.value.digits, .int .i64 x.value.exp, .string x.value.text, .slice A6 x.value.list.length c6, .slice A7 x.value.fields.length c7] (fun _ => True) (fun k => k < W0.heap.size) rfl rfl ⟨[.string _], _, rfl, rfl, (kV.M_below hMx.out (low_drewN (Below.refl _ _) _))⟩ (fun k hk => ⟨trivial, fun e => Nat.lt_irrefl _ (Nat.lt_of_lt_of_le hk (hq k e.symm))⟩) (fun _ _ => trivial) (Kd.R_below hRq.out (low_drewN (Below.refl _ _) _)) ((low_drewN hB _).mono (by omega)) hwm ?aL ?_; (case aL => exact (by rw [hlk.out]; omega)); intro v2 w2 hR2 hBb2 hg2 hat2; have hq2 := put_own hat2 hq hB.size; have hB2 : Below W0.heap.size W0 w2 := pw_below_grown (low_drewN hB _) _ hB.size hg2 hq; have hMf2 := kV.M_below hMf (hB2); replace hMf2 := Aside0.mk hMf2; clear hBb2 hg2 hat2))
        go_roundw
        case rel => exact ⟨j + 1, _, _, by go_num, rfl, rfl, by omega, hq2, hB2, .inl ⟨by omega, rfl, by rw [htk.out]; exact hR2⟩⟩
        case measure => first | (simp [intOf]; done) | (simp [intOf]; omega)
      · subst heqp
        obtain ⟨_, rfl, hRq⟩ : j ≤ j ∧ b = .bool false ∧ kF.R 69 wr base (fun _ => True) q (xs.take j) := hst.elim id (fun h => absurd h.1 (by omega))
        clear hst
        have hnot := hpart.out.not j x hx (Nat.le_refl _)
        have hbl : Op.bytesLess x.name.toList nm.toList = false := by rw [less_B]; exact hnot
        by_cases hne : x.name = nm
        · have heq : (x.name.toList == nm.toList) = true := by rw [hne]; exact beq_self_eq_true _
          have hsame : sameB x.name nm = true := sameB_iff.2 hne
          have hins : insF xs nm y = xs := by rw [hspot.out, if_pos (by rw [hx]; exact hsame)]
          replace hins := Aside0.mk hins
          replace hx := Aside0.mk hx
          replace hnot := Aside0.mk hnot
          replace hsame := Aside0.mk hsame
          replace hne := Aside0.mk hne
          replace hRq := Aside0.mk hRq
          go_wp2_with fail
          go_quiet (fail)
          go_wp2_with fail
          go_ret
          exact ⟨_, rfl, by rw [hins.out]; exact Kd.R_below (Kd.R_below hRend.out hB) (low_drewN (Below.refl _ _) _), hB0.out.trans ((low_drewN hB _).mono (by omega))⟩
        · have heq := bytes_beq_no hne
          have hte := bytes_tne hne
          have hany : (xs[j]?).any (fun f => sameB f.name nm) = false := by
            rw [hx]
            cases hs : sameB x.name nm with
            | false => exact hs
            | true => exact absurd (sameB_iff.1 hs) hne
          replace hany := Aside0.mk hany
          replace hx := Aside0.mk hx
          replace hnot := Aside0.mk hnot
          replace hne := Aside0.mk hne
          replace hRq := Aside0.mk hRq
          go_wp2_with fail
          go_quiet (fail)
          go_wp2_with fail
          go_quiet (fail)
          go_wp2_with (first
            | ((with_reducible refine gate_builtin (b := .append) (xs := #[.tmp 39, .tmp 44]) rfl ?_); at_builtin; refine Kd.R_append kF (w0 := W0) base rfl (.tmp 39) (.tmp 44) 25 69 zF 128 rfl Tryz.underlying25 infoF rfl (by decide) (by omega) v2 (xs.take j ++ [JF.mk nm y]) x2 [.string x2.name, .int .i64 x2.value.kind, .bool x2.value.truth, .bool x2.value.neg, .string x2.value.digits, .int .i64 x2.value.exp, .string x2.value.text, .slice B6 x2.value.list.length d6, .slice B7 x2.value.fields.length d7] (fun _ => True) (fun k => k < W0.heap.size) rfl rfl ⟨[.string _], _, rfl, rfl, hMx2.out⟩ (fun k hk => ⟨trivial, fun e => Nat.lt_irrefl _ (Nat.lt_of_lt_of_le hk (hq2 k e.symm))⟩) (fun _ _ => trivial) hR2.out (hB2.mono (by omega)) hwm2 ?aL ?_; (case aL => exact (by rw [List.length_append, hlk.out]; simp; omega)); intro v3 w3 hR3 hBb3 hg3 hat3; have hq3 := put_own hat3 hq2 hB2s; have hB3 : Below W0.heap.size W0 w3 := pw_below_grown hB2 _ hB2s hg3 hq2; have hMf3 := kV.M_below hMf (hB3); replace hMf3 := Aside0.mk hMf3; clear hBb3 hg3 hat3)
            | ((with_reducible refine gate_builtin (b := .append) (xs := #[.tmp 35, .tmp 37]) rfl ?_); at_builtin; refine Kd.R_append kF (w0 := W0) base rfl (.tmp 35) (.tmp 37) 25 69 zF 128 rfl Tryz.underlying25 infoF rfl (by decide) (by omega) q (xs.take j) (JF.mk nm y) [.string nm, .int .i64 y.kind, .bool y.truth, .bool y.neg, .string y.digits, .int .i64 y.exp, .string y.text, vl, vf] (fun _ => True) (fun k => k < W0.heap.size) rfl rfl ⟨[.string _], _, rfl, rfl, (kV.M_below hMw.out (low_drewN (Below.refl _ _) _))⟩ (fun k hk => ⟨trivial, fun e => Nat.lt_irrefl _ (Nat.lt_of_lt_of_le hk (hq k e.symm))⟩) (fun _ _ => trivial) (Kd.R_below hRq.out (low_drewN (Below.refl _ _) _)) ((low_drewN hB _).mono (by omega)) hwm ?aL ?_; (case aL => exact (by rw [hlk.out]; omega)); intro v2 w2 hR2 hBb2 hg2 hat2; have hq2 := put_own hat2 hq hB.size; have hB2 : Below W0.heap.size W0 w2 := pw_below_grown (low_drewN hB _) _ hB.size hg2 hq; have hMf2 := kV.M_below hMf (hB2); replace hMf2 := Aside0.mk hMf2; clear hBb2 hg2 hat2; obtain ⟨ad2, cc2, x2, B6, d6, B7, d7, hv2, hx2, hcs2, hMx2⟩ := at_FM (Kd.R_below hR0 hB2) j (by rw [hnl.out]; exact hjn); have hxe : x2 = x := (by rw [hx.out] at hx2; injection hx2 with hx2; exact hx2.symm); subst hxe; have hae : ad = ad2 := (by injection hv2 with h1; injection h1); subst hae; clear hv2 hx2; unfold JV.cells at hcs2 hMx2; clear q0 q1 q2 q3 q4 q5 q6 q7 q8; obtain ⟨q0, q1, q2, q3, q4, q5, q6, q7, q8, _⟩ := hcs2; replace hMx2 := Aside0.mk (kV.M_mono (fun k hk => hk.1) hMx2); have hwm2 : base ≤ w2.heap.size := (by have := hB2.size; omega); have hB2s := hB2.size; replace hR2 := Aside0.mk hR2))
          go_roundw
          case rel => exact ⟨j + 1, _, _, by go_num, rfl, rfl, by omega, hq3, hB3, .inr ⟨by omega, rfl, hany.out, by
            rw [htk.out, List.drop_append_of_le_length (by rw [hlk.out]; exact Nat.le_refl _), List.drop_of_length_le (by rw [hlk.out]; exact Nat.le_refl _)]
            have h3 := hR3
            rw [List.append_assoc] at h3
            exact h3⟩⟩
          case measure => first | (simp [intOf]; done) | (simp [intOf]; omega)
      · obtain ⟨_, rfl, hany, hRq⟩ : p < j ∧ b = .bool true ∧ (xs[p]?).any (fun f => sameB f.name nm) = false ∧ kF.R 69 wr base (fun _ => True) q (xs.take p ++ JF.mk nm y :: (xs.take j).drop p) := hst.elim (fun h => absurd h.1 (by omega)) id
        clear hst
        have hne := hafter j x hx hgt
        have heq := bytes_beq_no hne
        have hte := bytes_tne hne
        replace hany := Aside0.mk hany
        replace hx := Aside0.mk hx
        replace hne := Aside0.mk hne
        replace hRq := Aside0.mk hRq
        go_wp2_with fail
        go_quiet (fail)
        go_wp2_with fail
        go_quiet (fail)
        go_wp2_with (first
          | ((with_reducible refine gate_builtin (b := .append) (xs := #[.tmp 39, .tmp 44]) rfl ?_); at_builtin; refine Kd.R_append kF (w0 := W0) base rfl (.tmp 39) (.tmp 44) 25 69 zF 128 rfl Tryz.underlying25 infoF rfl (by decide) (by omega) q (xs.take p ++ JF.mk nm y :: (xs.take j).drop p) x [.string x.name, .int .i64 x.value.kind, .bool x.value.truth, .bool x.value.neg, .string x.value.digits, .int .i64 x.value.exp, .string x.value.text, .slice A6 x.value.list.length c6, .slice A7 x.value.fields.length c7] (fun _ => True) (fun k => k < W0.heap.size) rfl rfl ⟨[.string _], _, rfl, rfl, (kV.M_below hMx.out (low_drewN (Below.refl _ _) _))⟩ (fun k hk => ⟨trivial, fun e => Nat.lt_irrefl _ (Nat.lt_of_lt_of_le hk (hq k e.symm))⟩) (fun _ _ => trivial) (Kd.R_below hRq.out (low_drewN (Below.refl _ _) _)) ((low_drewN hB _).mono (by omega)) hwm ?aL ?_; (case aL => exact (by rw [List.length_append, hlp.out, List.length_cons, List.length_drop, hlk.out]; omega)); intro v2 w2 hR2 hBb2 hg2 hat2; have hq2 := put_own hat2 hq hB.size; have hB2 : Below W0.heap.size W0 w2 := pw_below_grown (low_drewN hB _) _ hB.size hg2 hq; have hMf2 := kV.M_below hMf (hB2); replace hMf2 := Aside0.mk hMf2; clear hBb2 hg2 hat2))
        go_roundw
        case rel => exact ⟨j + 1, _, _, by go_num, rfl, rfl, by omega, hq2, hB2, .inr ⟨by omega, rfl, hany.out, by
          rw [htk.out, List.drop_append_of_le_length (by rw [hlk.out]; omega)]
          have h3 := hR2
          rw [List.append_assoc, List.cons_append] at h3
          exact h3⟩⟩
        case measure => first | (simp [intOf]; done) | (simp [intOf]; omega)
    · obtain rfl : j = n := by omega
      have hall : xs.take j = xs := by rw [← hnl.out]; exact List.take_length
      rw [hall] at hst
      rcases Nat.lt_or_ge p j with hlt | hge
      · obtain ⟨_, rfl, hany, hRq⟩ : p < j ∧ b = .bool true ∧ (xs[p]?).any (fun f => sameB f.name nm) = false ∧ kF.R 69 wr base (fun _ => True) q (xs.take p ++ JF.mk nm y :: xs.drop p) := hst.elim (fun h => absurd h.1 (by omega)) id
        clear hst
        have hins : insF xs nm y = xs.take p ++ JF.mk nm y :: xs.drop p := by rw [hspot.out, if_neg (by rw [hany]; simp)]
        replace hins := Aside0.mk hins
        replace hany := Aside0.mk hany
        replace hRq := Aside0.mk hRq
        clear hall
        go_wp2_with fail
        go_ret
        exact ⟨_, rfl, by rw [hins.out]; exact hRq.out, hB0.out.trans (hB.mono (by omega))⟩
      · obtain rfl : p = j := by omega
        obtain ⟨_, rfl, hRq⟩ : p ≤ p ∧ b = .bool false ∧ kF.R 69 wr base (fun _ => True) q xs := hst.elim id (fun h => absurd h.1 (by omega))
        clear hst
        have hins : insF xs nm y = xs ++ [JF.mk nm y] := by
          rw [hspot.out, List.getElem?_eq_none (by rw [hnl.out]; exact Nat.le_refl _), if_neg (by simp), hall, List.drop_of_length_le (by rw [hnl.out]; exact Nat.le_refl _)]
        replace hins := Aside0.mk hins
        replace hRq := Aside0.mk hRq
        replace hMw := Aside0.mk hMw
        clear hall
        go_wp2_with (first
          | ((with_reducible refine gate_builtin (b := .append) (xs := #[.tmp 48, .tmp 50]) rfl ?_); at_builtin; refine Kd.R_append kF (w0 := W0) base rfl (.tmp 48) (.tmp 50) 25 69 zF 128 rfl Tryz.underlying25 infoF rfl (by decide) (by omega) q xs (JF.mk nm y) [.string nm, .int .i64 y.kind, .bool y.truth, .bool y.neg, .string y.digits, .int .i64 y.exp, .string y.text, vl, vf] (fun _ => True) (fun k => k < W0.heap.size) rfl rfl ⟨[.string _], _, rfl, rfl, hMw.out⟩ (fun k hk => ⟨trivial, fun e => Nat.lt_irrefl _ (Nat.lt_of_lt_of_le hk (hq k e.symm))⟩) (fun _ _ => trivial) hRq.out (hB.mono (by omega)) hwm ?aL ?_; (case aL => exact (by rw [hnl.out]; omega)); intro v2 w2 hR2 hBb2 hg2 hat2; have hq2 := put_own hat2 hq hB.size; have hB2 : Below W0.heap.size W0 w2 := pw_below_grown hB _ hB.size hg2 hq; have hMf2 := kV.M_below hMf (hB2); replace hMf2 := Aside0.mk hMf2; clear hBb2 hg2 hat2))
        go_ret
        exact ⟨_, rfl, by rw [hins.out]; exact hR2, hB0.out.trans (hB2.mono (by omega))⟩
end Go.Proofs.YtkdeleafgailhaaGreatDoor
end
section
set_option linter.unusedVariables false
set_option linter.unusedSimpArgs false
namespace Go.Proofs.YtkdeleafgailhaaGreatDoor
open Go Go.RowKit Go.Proofs.YtkdeleafgailhaaGreatDoorW.PrintWords

def RNormOK (x : JV) : Prop := ∀ (w : World) (cs : List Value), kV.K w x cs → x.wt ≤ 4294967296 → x.ints →
  Calls Tryz.prog 18 #[.agg cs.toArray] w fun e w' => ∃ cs', e = .returned (.agg cs'.toArray) ∧ kV.M w' w.heap.size (fun _ => True) x.norm cs' ∧ Below w.heap.size w w'

set_option maxRecDepth 100000 in
set_option maxHeartbeats 4000000 in
theorem rnorm_one (w : World) (t ng : Bool) (ds tx : ByteArray) (ex : Int) (A B : Option Addr) (nl c nf d : Nat) :
    Calls Tryz.prog 18 #[.agg #[.int .i64 1, .bool t, .bool ng, .string ds, .int .i64 ex, .string tx, .slice A nl c, .slice B nf d]] w fun e w' => ∃ cs', e = .returned (.agg cs'.toArray) ∧ kV.M w' w.heap.size (fun _ => True) (.mk 1 t false ⟨#[]⟩ 0 ⟨#[]⟩ [] []) cs' ∧ Below w.heap.size w w' := by
  go_enter Tryz.func18, Tryz.ntmps18
  go_wp2_with fail
  refine bodyPost_ret (v := .agg #[.int .i64 1, .bool t, .bool false, .string ⟨#[]⟩, .int .i64 0, .string ⟨#[]⟩, .slice none 0 0, .slice none 0 0]) (by simp [results, Tryz.results18, go_sem]) rfl ⟨_, rfl, kV_mkM (x := .mk 1 t false ⟨#[]⟩ 0 ⟨#[]⟩ [] []) (R_nilV _ _ _) (R_nilF _ _ _), ((Below.refl _ w).alloc (Nat.le_refl _) _).alloc (by simp) _⟩

set_option maxRecDepth 100000 in
set_option maxHeartbeats 4000000 in
theorem rnorm_rest (w : World) (k : Int) (t ng : Bool) (ds tx : ByteArray) (ex : Int) (A B : Option Addr) (nl c nf d : Nat) (h1 : ¬ k = 1) (h2 : ¬ k = 2) (h3 : ¬ k = 3) (h4 : ¬ k = 4) (h5 : ¬ k = 5) :
    Calls Tryz.prog 18 #[.agg #[.int .i64 k, .bool t, .bool ng, .string ds, .int .i64 ex, .string tx, .slice A nl c, .slice B nf d]] w fun e w' => ∃ cs', e = .returned (.agg cs'.toArray) ∧ kV.M w' w.heap.size (fun _ => True) JV.nul cs' ∧ Below w.heap.size w w' := by
  have b1 : (k == 1) = false := by simpa using h1
  have b2 : (k == 2) = false := by simpa using h2
  have b3 : (k == 3) = false := by simpa using h3
  have b4 : (k == 4) = false := by simpa using h4
  have b5 : (k == 5) = false := by simpa using h5
  go_enter Tryz.func18, Tryz.ntmps18
  go_wp2_with fail
  refine bodyPost_ret (v := .agg #[.int .i64 0, .bool false, .bool false, .string ⟨#[]⟩, .int .i64 0, .string ⟨#[]⟩, .slice none 0 0, .slice none 0 0]) (by simp [results, Tryz.results18, go_sem]) rfl ⟨_, rfl, kV_mkM (x := JV.nul) (R_nilV _ _ _) (R_nilF _ _ _), ((Below.refl _ w).alloc (Nat.le_refl _) _).alloc (by simp) _⟩

set_option maxRecDepth 100000 in
set_option maxHeartbeats 4000000 in
theorem rnorm_num (w : World) (t ng : Bool) (ds tx : ByteArray) (ex : Int) (A B : Option Addr) (nl c nf d : Nat) (hs : ds.size ≤ 4294967296) (he0 : -9223372036854775808 ≤ ex) (he1 : ex ≤ 9223372036854775807) :
    Calls Tryz.prog 18 #[.agg #[.int .i64 2, .bool t, .bool ng, .string ds, .int .i64 ex, .string tx, .slice A nl c, .slice B nf d]] w fun e w' => ∃ cs', e = .returned (.agg cs'.toArray) ∧ kV.M w' w.heap.size (fun _ => True) (.mk 2 false (decNorm ng ds ex).neg (decNorm ng ds ex).digits (decNorm ng ds ex).exp ⟨#[]⟩ [] []) cs' ∧ Below w.heap.size w w' := by
  have hB0 := ((Below.refl _ w).alloc (Nat.le_refl _) (.cells #[.int .i64 2, .bool t, .bool ng, .string ds, .int .i64 ex, .string tx, .slice A nl c, .slice B nf d] 27)).alloc (by simp) (.cells #[.int .i64 0, .bool false, .bool false, .string ⟨#[]⟩, .int .i64 0, .string ⟨#[]⟩, .slice none 0 0, .slice none 0 0] 27)
  obtain ⟨e0, e1⟩ := boxes' w (.cells #[.int .i64 2, .bool t, .bool ng, .string ds, .int .i64 ex, .string tx, .slice A nl c, .slice B nf d] 27) (.cells #[.int .i64 0, .bool false, .bool false, .string ⟨#[]⟩, .int .i64 0, .string ⟨#[]⟩, .slice none 0 0, .slice none 0 0] 27)
  replace e0 := Aside0.mk e0
  replace e1 := Aside0.mk e1
  have cN := fun W => norm01_dec ng ds ex W (by omega) he0 he1
  generalize decNorm ng ds ex = D at cN ⊢
  replace hB0 := Aside0.mk hB0
  go_enter Tryz.func18, Tryz.ntmps18
  go_wp2_with (go_at_call 38; refine (cN _).mono ?_; rintro e w' ⟨rfl, hb⟩; have hb0 := (hb.block w.heap.size (by simp <;> omega)).trans e0.out; have hb1 := (hb.block (w.heap.size + 1) (by simp <;> omega)).trans e1.out; have hc0 := cellAll hb0; have hf0 := frozenAll hb0; have hc1 := cellAll hb1; have hf1 := frozenAll hb1; clear hb0 hb1)
  all_goals (refine bodyPost_ret (v := .agg #[.int .i64 2, .bool false, .bool D.neg, .string D.digits, .int .i64 D.exp, .string ⟨#[]⟩, .slice none 0 0, .slice none 0 0]) (by simp [results, Tryz.results18, go_sem, hc1]) rfl ⟨[.int .i64 2, .bool false, .bool D.neg, .string D.digits, .int .i64 D.exp, .string ⟨#[]⟩, .slice none 0 0, .slice none 0 0], rfl, ?_, ?_⟩)
  all_goals (first
    | (iterate 8 refine below_set ?_ (by omega)
       exact (hB0.out).trans (hb.mono (by simp <;> omega)))
    | exact kV_mkM (x := .mk 2 false D.neg D.digits D.exp ⟨#[]⟩ [] []) (R_nilV _ _ _) (R_nilF _ _ _))

set_option maxRecDepth 100000 in
set_option maxHeartbeats 4000000 in
theorem rnorm_text (w : World) (t ng : Bool) (ds tx : ByteArray) (ex : Int) (A B : Option Addr) (nl c nf d : Nat) (hs : tx.size ≤ 4294967296) :
    Calls Tryz.prog 18 #[.agg #[.int .i64 3, .bool t, .bool ng, .string ds, .int .i64 ex, .string tx, .slice A nl c, .slice B nf d]] w fun e w' => ∃ cs', e = .returned (.agg cs'.toArray) ∧ kV.M w' w.heap.size (fun _ => True) (.mk 3 false false ⟨#[]⟩ 0 (clean tx) [] []) cs' ∧ Below w.heap.size w w' := by
  have hB0 := ((Below.refl _ w).alloc (Nat.le_refl _) (.cells #[.int .i64 3, .bool t, .bool ng, .string ds, .int .i64 ex, .string tx, .slice A nl c, .slice B nf d] 27)).alloc (by simp) (.cells #[.int .i64 0, .bool false, .bool false, .string ⟨#[]⟩, .int .i64 0, .string ⟨#[]⟩, .slice none 0 0, .slice none 0 0] 27)
  obtain ⟨e0, e1⟩ := boxes' w (.cells #[.int .i64 3, .bool t, .bool ng, .string ds, .int .i64 ex, .string tx, .slice A nl c, .slice B nf d] 27) (.cells #[.int .i64 0, .bool false, .bool false, .string ⟨#[]⟩, .int .i64 0, .string ⟨#[]⟩, .slice none 0 0, .slice none 0 0] 27)
  replace e0 := Aside0.mk e0
  replace e1 := Aside0.mk e1
  have cN := fun W => rClean_any tx W (by omega)
  generalize clean tx = D at cN ⊢
  replace hB0 := Aside0.mk hB0
  go_enter Tryz.func18, Tryz.ntmps18
  go_wp2_with (go_at_call 37; refine (cN _).mono ?_; rintro e w' ⟨rfl, hb⟩; have hb0 := (hb.block w.heap.size (by simp <;> omega)).trans e0.out; have hb1 := (hb.block (w.heap.size + 1) (by simp <;> omega)).trans e1.out; have hc0 := cellAll hb0; have hf0 := frozenAll hb0; have hc1 := cellAll hb1; have hf1 := frozenAll hb1; clear hb0 hb1)
  all_goals (refine bodyPost_ret (v := .agg #[.int .i64 3, .bool false, .bool false, .string ⟨#[]⟩, .int .i64 0, .string D, .slice none 0 0, .slice none 0 0]) (by simp [results, Tryz.results18, go_sem, hc1]) rfl ⟨[.int .i64 3, .bool false, .bool false, .string ⟨#[]⟩, .int .i64 0, .string D, .slice none 0 0, .slice none 0 0], rfl, ?_, ?_⟩)
  all_goals (first
    | (iterate 8 refine below_set ?_ (by omega)
       exact (hB0.out).trans (hb.mono (by simp <;> omega)))
    | exact kV_mkM (x := .mk 3 false false ⟨#[]⟩ 0 D [] []) (R_nilV _ _ _) (R_nilF _ _ _))

end Go.Proofs.YtkdeleafgailhaaGreatDoor
end
section
set_option linter.unusedVariables false
set_option linter.unusedSimpArgs false
namespace Go.Proofs.YtkdeleafgailhaaGreatDoor
open Go Go.RowKit Go.Proofs.YtkdeleafgailhaaGreatDoorW.PrintWords

theorem set_far {B : Nat} {a w : World} (h : Below B a w) {b j : Nat} (hb : B ≤ b) (v : Value) : Below B a (w.setCell ⟨b, j, none⟩ v) := h.setCell (by simpa using hb) _

set_option maxRecDepth 100000 in
set_option maxHeartbeats 8000000 in
theorem rnorm_list (w : World) (t ng : Bool) (ds tx : ByteArray) (ex : Int) (A B : Option Addr) (nl c nf d : Nat) (xs : List JV) (hC : kV.C w A nl xs) (hnc : nl ≤ c) (hok : ∀ y ∈ xs, RNormOK y) (hwt : JV.wtL xs ≤ 4294967296) (hin : JV.intsL xs) :
    Calls Tryz.prog 18 #[.agg #[.int .i64 4, .bool t, .bool ng, .string ds, .int .i64 ex, .string tx, .slice A nl c, .slice B nf d]] w fun e w' => ∃ cs', e = .returned (.agg cs'.toArray) ∧ kV.M w' w.heap.size (fun _ => True) (.mk 4 false false ⟨#[]⟩ 0 ⟨#[]⟩ (JV.normL xs) []) cs' ∧ Below w.heap.size w w' := by
  have hB0 := ((Below.refl _ w).alloc (Nat.le_refl _) (.cells #[.int .i64 4, .bool t, .bool ng, .string ds, .int .i64 ex, .string tx, .slice A nl c, .slice B nf d] 27)).alloc (by simp) (.cells #[.int .i64 0, .bool false, .bool false, .string ⟨#[]⟩, .int .i64 0, .string ⟨#[]⟩, .slice none 0 0, .slice none 0 0] 27)
  have hlen := hC.1
  have hll := wtL_len xs
  have hnl : nl ≤ 4294967296 := by omega
  obtain ⟨e0, e1⟩ := boxes' w (.cells #[.int .i64 4, .bool t, .bool ng, .string ds, .int .i64 ex, .string tx, .slice A nl c, .slice B nf d] 27) (.cells #[.int .i64 0, .bool false, .bool false, .string ⟨#[]⟩, .int .i64 0, .string ⟨#[]⟩, .slice none 0 0, .slice none 0 0] 27)
  go_enter Tryz.func18, Tryz.ntmps18
  go_wp2_with fail
  obtain ⟨W3, hW3⟩ : ∃ W3, (((w.alloc (.cells #[.int .i64 4, .bool t, .bool ng, .string ds, .int .i64 ex, .string tx, .slice A nl c, .slice B nf d] 27)).alloc (.cells #[.int .i64 0, .bool false, .bool false, .string ⟨#[]⟩, .int .i64 0, .string ⟨#[]⟩, .slice none 0 0, .slice none 0 0] 27)).alloc (.cells #[.int .i64 4, .bool false, .bool false, .string ⟨#[]⟩, .int .i64 0, .string ⟨#[]⟩, .slice none 0 0, .slice none 0 0] 27)) = W3 := ⟨_, rfl⟩
  have f2 := heap_alloc_new ((w.alloc (.cells #[.int .i64 4, .bool t, .bool ng, .string ds, .int .i64 ex, .string tx, .slice A nl c, .slice B nf d] 27)).alloc (.cells #[.int .i64 0, .bool false, .bool false, .string ⟨#[]⟩, .int .i64 0, .string ⟨#[]⟩, .slice none 0 0, .slice none 0 0] 27)) (.cells #[.int .i64 4, .bool false, .bool false, .string ⟨#[]⟩, .int .i64 0, .string ⟨#[]⟩, .slice none 0 0, .slice none 0 0] 27)
  have f0 := (heap_alloc_old _ (.cells #[.int .i64 4, .bool false, .bool false, .string ⟨#[]⟩, .int .i64 0, .string ⟨#[]⟩, .slice none 0 0, .slice none 0 0] 27) (blk_lt e0)).trans e0
  have f1 := (heap_alloc_old _ (.cells #[.int .i64 4, .bool false, .bool false, .string ⟨#[]⟩, .int .i64 0, .string ⟨#[]⟩, .slice none 0 0, .slice none 0 0] 27) (blk_lt e1)).trans e1
  have hB3 := hB0.alloc (by simp; omega) (.cells #[.int .i64 4, .bool false, .bool false, .string ⟨#[]⟩, .int .i64 0, .string ⟨#[]⟩, .slice none 0 0, .slice none 0 0] 27)
  have hs2 : ((w.alloc (.cells #[.int .i64 4, .bool t, .bool ng, .string ds, .int .i64 ex, .string tx, .slice A nl c, .slice B nf d] 27)).alloc (.cells #[.int .i64 0, .bool false, .bool false, .string ⟨#[]⟩, .int .i64 0, .string ⟨#[]⟩, .slice none 0 0, .slice none 0 0] 27)).heap.size = w.heap.size + 1 + 1 := by simp
  have hs3 : W3.heap.size = w.heap.size + 3 := by rw [← hW3]; simp
  rw [hs2] at f2
  rw [hW3] at f0 f1 f2 hB3 ⊢
  clear hW3 hs2 e0 e1 hB0
  replace hlen := Aside0.mk hlen
  replace f0 := Aside0.mk f0
  replace f1 := Aside0.mk f1
  replace f2 := Aside0.mk f2
  replace hB3 := Aside0.mk hB3
  go_loopw [4] (fun i wr => ∃ (j : Nat) (v : Value), i = .int .i64 j ∧ j ≤ nl ∧ wr.heap[w.heap.size + 1 + 1]? = some (.cells #[.int .i64 4, .bool false, .bool false, .string ⟨#[]⟩, .int .i64 0, .string ⟨#[]⟩, v, .slice none 0 0] 27 (0, 0)) ∧ kV.R 27 wr (w.heap.size + 3) (fun _ => True) v ((xs.take j).map JV.norm) ∧ Below (w.heap.size + 2) W3 wr) (fun i _ => nl - (intOf i).toNat)
  case atStart => exact ⟨0, _, rfl, Nat.zero_le _, f2.out, R_nilV _ _ _, Below.refl _ _⟩
  case round =>
    obtain ⟨j, v, rfl, hj, hbx, hR, hB⟩ := hrel
    obtain ⟨VA, vc, hv⟩ := Kd.R_slice hR
    rw [show ((xs.take j).map JV.norm).length = j by rw [List.length_map, List.length_take, hlen.out]; omega] at hv
    subst hv
    have hbf := (hB.block w.heap.size (by omega)).trans f0.out
    have hcf := cellAll hbf
    have hcx := cellAll hbx
    have hfx := frozenAll hbx
    have hBw : Below w.heap.size w wr := hB3.out.trans (hB.mono (by omega))
    by_cases hlt : j < nl
    · obtain ⟨ad, x, A6, c6, A7, c7, rfl, hx, hcs, l6, g6, l7, g7⟩ := at_V hC j hlt
      have hK := kV_mkK l6 g6 l7 g7
      unfold JV.cells at hcs hK
      obtain ⟨q0, q1, q2, q3, q4, q5, q6, q7, _⟩ := hcs
      have hxm : x ∈ xs := List.mem_of_getElem? hx
      have hnx := hok x hxm
      have hwx := wt_memL hxm
      have hix := ints_memL hxm hin
      have cN := fun (W : World) (hb : Below w.heap.size w W) => hnx W _ (kV.K_below hb hK) (by omega) hix
      have hSof : ∀ W, Below (w.heap.size + 2) wr W → W.cell? ⟨w.heap.size, 6, none⟩ = some (.slice (some ad) nl c) ∧ W.cell? (ad.add (j * 8)) = some (.int .i64 x.kind) ∧ W.cell? ⟨(ad.add (j * 8)).block, (ad.add (j * 8)).off + (0 + 1), none⟩ = some (.bool x.truth) ∧ W.cell? ⟨(ad.add (j * 8)).block, (ad.add (j * 8)).off + (1 + 1), none⟩ = some (.bool x.neg) ∧ W.cell? ⟨(ad.add (j * 8)).block, (ad.add (j * 8)).off + (2 + 1), none⟩ = some (.string x.digits) ∧ W.cell? ⟨(ad.add (j * 8)).block, (ad.add (j * 8)).off + (3 + 1), none⟩ = some (.int .i64 x.exp) ∧ W.cell? ⟨(ad.add (j * 8)).block, (ad.add (j * 8)).off + (4 + 1), none⟩ = some (.string x.text) ∧ W.cell? ⟨(ad.add (j * 8)).block, (ad.add (j * 8)).off + (5 + 1), none⟩ = some (.slice A6 x.list.length c6) ∧ W.cell? ⟨(ad.add (j * 8)).block, (ad.add (j * 8)).off + (6 + 1), none⟩ = some (.slice A7 x.fields.length c7) := fun W hb => by
        have hbw := hBw.trans (hb.mono (by omega))
        refine ⟨cellAll ((hb.block w.heap.size (by omega)).trans hbf) 6, ?_, ?_, ?_, ?_, ?_, ?_, ?_, ?_⟩ <;> first | exact pw_cell_below hbw q0 | exact pw_cell_below hbw q1 | exact pw_cell_below hbw q2 | exact pw_cell_below hbw q3 | exact pw_cell_below hbw q4 | exact pw_cell_below hbw q5 | exact pw_cell_below hbw q6 | exact pw_cell_below hbw q7
      have hS0 := hSof wr (Below.refl _ _)
      have hS1 := hSof wr.drew (Below.refl _ _).drew
      have hbd : Below wr.heap.size wr wr.drew := (Below.refl _ _).drew
      have hRd := Kd.R_below hR hbd
      obtain ⟨inner, hown⟩ := Kd.R_own hRd
      have hws : w.heap.size + 3 ≤ wr.heap.size := by have := hB.size; omega
      have hj1 : (j : Int) < (nl : Int) := by omega
      have hj0 : (0 : Int) ≤ (j : Int) := by omega
      replace hR := Aside0.mk hR
      replace hRd := Aside0.mk hRd
      replace hown := Aside0.mk hown
      replace hx := Aside0.mk hx
      replace hbx := Aside0.mk hbx
      replace hbf := Aside0.mk hbf
      have hl1 : Aside0 (((xs.take j).map JV.norm ++ [x.norm]).length = j + 1) := ⟨by rw [List.length_append, List.length_map, List.length_take, hlen.out, Nat.min_eq_left hj]; rfl⟩
      clear hnx hK hxm q0 q1 q2 q3 q4 q5 q6 q7
      go_wp2_with fail
      go_region_law
        (first
          | (refine Kd.R_append_step kV (w0 := wr) (w.heap.size + 3) (by rfl) (.tmp 38) (.tmp 45) 24 27 zV 112 (by rfl) Tryz.underlying24 infoV (by rfl) (by decide) (by omega) (.slice VA j vc) ((xs.take j).map JV.norm) x.norm [.int .i64 x.norm.kind, .bool x.norm.truth, .bool x.norm.neg, .string x.norm.digits, .int .i64 x.norm.exp, .string x.norm.text, .slice Al x.norm.list.length cl, .slice Af x.norm.fields.length cf] (fun _ => True) _ (by rfl) (by rfl) hM1.out (fun _ hk => hk) (fun _ _ => trivial) hR2.out (hb4.mono hws) (by omega) ?aL ?_; (case aL => exact (by rw [List.length_map, List.length_take, hlen.out]; have : min j nl ≤ nl := Nat.min_le_right _ _; omega)); intro v1 w5 hR3 hB5 hg5 hat5; clear hat5; obtain ⟨A1, c1, hv1⟩ := Kd.R_slice hR3; rw [hl1.out] at hv1; subst hv1; have hbl5 := hbl4.grown hg5 (by omega) (fun k hk => by have := Kd.R_base hR2.out k hk; omega); have hbx5 := blk_grown hbx4.out hg5 (fun e => by have := Kd.R_base hR2.out (w.heap.size + 1 + 1) e.symm; omega); have hcx5 := cellAll hbx5; have hfx5 := frozenAll hbx5; have hS5 := hSof w5 hbl5; replace hbx5 := Aside0.mk hbx5; replace hR3 := Aside0.mk hR3)
          | (go_simp; go_at_call 18; refine (cN _ (hBw.trans (hbd.mono (by omega)))).mono ?_; rintro e w4 ⟨cs', rfl, hM, hb4'⟩; obtain ⟨vl, vf, rfl, hRl, hRf⟩ := kV_openM hM; unfold JV.cells at hM; obtain ⟨Al, cl, rfl⟩ := Kd.R_slice hRl; obtain ⟨Af, cf, rfl⟩ := Kd.R_slice hRf; unfold JV.cells; clear hRl hRf; have hM1 := kV.M_lower (base' := w.heap.size + 3) hws (Kd.M_new hM hown.out); have hR2 := Kd.R_below hRd.out hb4'; have hb4 := hbd.trans hb4'; have hbs4 := hb4.size; have hbl4 := hb4.mono (B' := w.heap.size + 2) (by omega); have hbx4 := (hb4.block _ (blk_lt hbx.out)).trans hbx.out; have hcx4 := cellAll hbx4; have hfx4 := frozenAll hbx4; have hS4 := hSof w4 hbl4; have hcxa := cellAll ((heap_alloc_old w4 (.cells #[.int .i64 x.norm.kind, .bool x.norm.truth, .bool x.norm.neg, .string x.norm.digits, .int .i64 x.norm.exp, .string x.norm.text, .slice Al x.norm.list.length cl, .slice Af x.norm.fields.length cf] 27) (blk_lt hbx4)).trans hbx4); replace hM1 := Aside0.mk hM1; replace hR2 := Aside0.mk hR2; replace hbx4 := Aside0.mk hbx4; clear hM))
      all_goals (go_wp2_with fail)
      all_goals go_roundw
      all_goals (try (case measure => first | (simp [intOf]; done) | (simp [intOf]; omega)))
      all_goals (refine ⟨j + 1, .slice A1 (j + 1) c1, by go_num, by omega, blk_set hbx5.out 6 _, ?_, set_far (hB.trans (hbl5.mono (by omega))) (by omega) _⟩)
      all_goals (rw [show (xs.take (j + 1)).map JV.norm = (xs.take j).map JV.norm ++ [x.norm] by rw [List.take_add_one, hx.out, Option.toList_some, List.map_append]; rfl])
      all_goals (exact Kd.R_mono (Kd.R_far (p := ⟨w.heap.size + 1 + 1, 6, none⟩) (ok := fun k => w.heap.size + 3 ≤ k) (Kd.R_mono (Kd.R_bound hR3.out) (fun k hk => hk.2.1)) (fun k hk => by show k ≠ w.heap.size + 1 + 1; omega) _) (fun _ _ => trivial))
    · obtain rfl : j = nl := by omega
      have hb1 := (hB.block (w.heap.size + 1) (by omega)).trans f1.out
      have hc1 := cellAll hb1
      have hf1 := frozenAll hb1
      clear hb1 hbf
      replace hR := Aside0.mk hR
      replace hbx := Aside0.mk hbx
      have hno : ¬ (j : Int) < (j : Int) := by omega
      go_wp2_with fail
      refine bodyPost_ret (v := .agg #[.int .i64 4, .bool false, .bool false, .string ⟨#[]⟩, .int .i64 0, .string ⟨#[]⟩, .slice VA j vc, .slice none 0 0]) (by simp [results, Tryz.results18, go_sem, hc1]) rfl ⟨[.int .i64 4, .bool false, .bool false, .string ⟨#[]⟩, .int .i64 0, .string ⟨#[]⟩, .slice VA j vc, .slice none 0 0], rfl, ?_, ?_⟩
      · refine kV_mkM (x := .mk 4 false false ⟨#[]⟩ 0 ⟨#[]⟩ (JV.normL xs) []) (R_setsV (W := W3) (by rw [normL_map, hs3]; have := hR.out; rw [← hlen.out, List.take_length] at this; rw [← hlen.out]; exact this) (by omega) (by omega)) (R_nilF _ _ _)
      · iterate 8 refine below_set ?_ (by omega)
        exact hBw
end Go.Proofs.YtkdeleafgailhaaGreatDoor
end
