/- voyagelaw02.JsonGaps: true. -/
import Derived.Test.YtmfijfcikecglaaGreatDoorH24
import Derived.Test.YtmfijfcikecglaaGreatDoorH27
import Derived.Test.YtmfijfcikecglaaGreatDoorH20
import Derived.BigQuiet
import Derived.Deep.RegionLaw
section
set_option linter.unusedVariables false
set_option linter.unusedSimpArgs false
namespace Go.Proofs.YtmfijfcikecglaaGreatDoor
open Go Go.RowKit Go.Proofs.YtmfijfcikecglaaGreatDoorW.PrintWords

/-! ### the loop, plainly -/
def gapB (k : Int) : List UInt8 := if k = 0 then [] else if k = 1 then [32] else if k = 2 then [10, 9] else [13, 32]
theorem gapB_gaps (k : Int) : Gaps (gapB k) := by
  unfold gapB Gaps
  split
  · decide
  split
  · decide
  split
  · decide
  · decide
theorem gapB_len (k : Int) : (gapB k).length ≤ 2 := by
  unfold gapB
  repeat' split
  all_goals decide
def gG (zs : List Int) (i : Nat) : List UInt8 := gapB (pickN (zs.getD i 0) 4)
def gH (zs : List Int) (i : Nat) : List UInt8 := gapB (pickN ((zs.getD i 0).tdiv 4) 4)
/-- Where the loop stands. -/
def GapAt (zs : List Int) (s : List UInt8) (i fr : Nat) (wn : Bool) (L : List UInt8) : Prop := L ++ ((s.drop fr).take (i - fr) ++ wideF zs.length (gG zs) (gH zs) wn (s.drop i) i) = wideF zs.length (gG zs) (gH zs) false s 0
section
variable {zs : List Int} {s : List UInt8} {i fr : Nat} {wn wn' : Bool} {L : List UInt8}
theorem GapAt.go (h : GapAt zs s i fr wn L) (hf : fr ≤ i) (k : Nat) (hk : wideF zs.length (gG zs) (gH zs) wn (s.drop i) i = (s.drop i).take k ++ wideF zs.length (gG zs) (gH zs) wn' (s.drop (i + k)) (i + k)) : GapAt zs s (i + k) fr wn' L := by
  unfold GapAt at h ⊢
  rw [← h, hk, show i + k - fr = (i - fr) + k by omega, List.take_add, List.drop_drop, show fr + (i - fr) = i by omega, List.append_assoc]
theorem drop_at (hi : i < s.length) : s.drop i = s[i] :: s.drop (i + 1) := List.drop_eq_getElem_cons hi
theorem GapAt.esc (h : GapAt zs s i fr true L) (hf : fr ≤ i) (hi : i < s.length) (hc : s[i] = 92) : GapAt zs s (i + 2) fr true L := by
  refine h.go hf 2 ?_
  rw [drop_at hi, hc]
  by_cases h2 : i + 1 < s.length
  · rw [drop_at h2, wideF_esc]; rfl
  · rw [List.drop_eq_nil_of_le (by omega), List.drop_eq_nil_of_le (by omega), wideF, wideF]; rfl
theorem GapAt.quote (h : GapAt zs s i fr wn L) (hf : fr ≤ i) (hi : i < s.length) (hc : s[i] = 34) : GapAt zs s (i + 1) fr (!wn) L := by
  refine h.go hf 1 ?_
  rw [drop_at hi, hc]
  cases wn with
  | true => rw [wideF_shut]; rfl
  | false => rw [wideF_open]; rfl
theorem GapAt.in_ (h : GapAt zs s i fr true L) (hf : fr ≤ i) (hi : i < s.length) (hc : s[i] ≠ 34) (hc2 : s[i] ≠ 92) : GapAt zs s (i + 1) fr true L := by
  refine h.go hf 1 ?_
  rw [drop_at hi]
  generalize s[i] = c at *
  cases s.drop (i + 1) with
  | nil => rw [wideF, wideF]; rfl
  | cons d r => rw [wideF, if_neg hc2, decide_eq_false hc]; rfl
theorem GapAt.out (h : GapAt zs s i fr false L) (hf : fr ≤ i) (hi : i < s.length) (hc : s[i] ≠ 34) (hc2 : ¬ (isBrk s[i] = true ∧ i < zs.length)) : GapAt zs s (i + 1) fr false L := by
  refine h.go hf 1 ?_
  rw [drop_at hi]
  generalize s[i] = c at *
  rw [wideF, if_neg hc, if_neg hc2]; rfl
theorem GapAt.brk (h : GapAt zs s i fr false L) (hf : fr ≤ i) (hi : i < s.length) (hc : s[i] ≠ 34) (hc2 : isBrk s[i] = true) (hz : i < zs.length) : GapAt zs s (i + 1) (i + 1) false (L ++ ((s.drop fr).take (i - fr) ++ (gG zs i ++ (s[i] :: gH zs i)))) := by
  unfold GapAt at h ⊢
  rw [← h]
  rw [drop_at hi]
  generalize s[i] = c at *
  rw [wideF, if_neg hc, if_pos ⟨hc2, hz⟩, Nat.sub_self, List.take_zero]
  simp
theorem GapAt.ends (h : GapAt zs s i fr wn L) (hi : s.length ≤ i) (hf : fr ≤ i) : L ++ s.drop fr = wideF zs.length (gG zs) (gH zs) false s 0 := by
  unfold GapAt at h
  rw [← h, List.drop_eq_nil_of_le hi, wideF, List.append_nil, List.take_of_length_le (by rw [List.length_drop]; omega)]
end

theorem tdiv4 (z : Int) (h0 : -9223372036854775808 ≤ z) (h1 : z ≤ 9223372036854775807) : -9223372036854775808 ≤ z.tdiv 4 ∧ z.tdiv 4 ≤ 9223372036854775807 := by
  rcases Int.le_total 0 z with h | h
  · rw [Int.tdiv_eq_ediv_of_nonneg h]; omega
  · obtain ⟨y, rfl⟩ : ∃ y, z = -y := ⟨-z, by omega⟩
    rw [Int.neg_tdiv, Int.tdiv_eq_ediv_of_nonneg (by omega)]; omega
theorem gap_cell {W : World} {g : Nat} (h : W.heap[g]? = some (.cells #[.string ⟨#[]⟩, .string ⟨#[32]⟩, .string ⟨#[10, 9]⟩, .string ⟨#[13, 32]⟩] 9 (0, 0))) (k : Int) (h0 : 0 ≤ k) (h1 : k < 4) : W.cell? ⟨g, k.toNat, none⟩ = some (.string ⟨(gapB k).toArray⟩) := by
  have hc := cellAll h
  have : k = 0 ∨ k = 1 ∨ k = 2 ∨ k = 3 := by omega
  rcases this with rfl | rfl | rfl | rfl
  · exact hc 0
  · exact hc 1
  · exact hc 2
  · exact hc 3

theorem bytesOf_app (a b : ByteArray) : bytesOf (a ++ b) = bytesOf a ++ bytesOf b := by
  unfold bytesOf
  rw [ByteArray.data_append]
  simp
theorem bytesOf_mk (l : List UInt8) : bytesOf ⟨l.toArray⟩ = nat8 l := by unfold bytesOf nat8; simp
theorem gap_bytes (s : ByteArray) (q : List UInt8) (hs : s.data.toList = q) (fr j : Nat) (hf : fr ≤ j) (hj : j < s.size) (k1 k2 : Int) (u : UInt8) {hq : j < q.length} (hu : q[j]'hq = u) (g1 g2 : ByteArray) (h1 : (⟨(gapB k1).toArray⟩ : ByteArray) = g1) (h2 : (⟨(gapB k2).toArray⟩ : ByteArray) = g2) :
    bytesOf (s.extract fr j ++ g1 ++ s.extract j (j + 1) ++ g2) = nat8 ((q.drop fr).take (j - fr) ++ (gapB k1 ++ (u :: gapB k2))) ∧ (s.extract fr j ++ g1 ++ s.extract j (j + 1) ++ g2).size ≤ j - fr + 5 := by
  have e1 := extract_bytes s fr (j - fr) (by omega)
  rw [show fr + (j - fr) = j by omega, hs] at e1
  have e2 := extract_bytes s j 1 (by omega)
  rw [hs, List.drop_eq_getElem_cons hq, hu] at e2
  have hb : bytesOf (s.extract fr j ++ g1 ++ s.extract j (j + 1) ++ g2) = nat8 ((q.drop fr).take (j - fr) ++ (gapB k1 ++ (u :: gapB k2))) := by
    rw [bytesOf_app, bytesOf_app, bytesOf_app, e1, e2, ← h1, ← h2, bytesOf_mk, bytesOf_mk, nat8_app, nat8_app]
    simp [nat8]
  refine ⟨hb, ?_⟩
  rw [← bytesOf_length, hb, nat8_len]
  have := gapB_len k1
  have := gapB_len k2
  have : ((q.drop fr).take (j - fr)).length ≤ j - fr := List.length_take_le _ _
  simp only [List.length_append, List.length_cons]
  omega

theorem norm_kind2 : ∀ (x : JV), x.norm.kind = 2 → x.kind = 2
  | .mk k t n d e s l f, h => by
    rw [JV.norm] at h
    show k = 2
    split at h
    · exact absurd h (by show ¬ (1 : Int) = 2; decide)
    split at h
    · rename_i h2; exact h2
    split at h
    · exact absurd h (by show ¬ (3 : Int) = 2; decide)
    split at h
    · exact absurd h (by show ¬ (4 : Int) = 2; decide)
    split at h
    · exact absurd h (by show ¬ (5 : Int) = 2; decide)
    · exact absurd h (by show ¬ (0 : Int) = 2; decide)
theorem K_nul (w : World) : kV.K w JV.nul [.int .i64 0, .bool false, .bool false, .string ⟨#[]⟩, .int .i64 0, .string ⟨#[]⟩, .slice none 0 0, .slice none 0 0] := kV.K_of_M (kV_mkM (x := JV.nul) (base := w.heap.size) (ok := fun _ => True) (R_nilV _ _ _) (R_nilF _ _ _))

set_option maxRecDepth 100000 in
set_option maxHeartbeats 8000000 in
theorem gaps_any (E : ErrV) (x : JV) (w : World) (cs : List Value) (hK : kV.K w x cs) (hP : PEnv E w) (hx : x.fits) (RA : Option Addr) (rn rc : Nat) (zs : List Int) (hR : ReadsInt w .i64 RA rn zs) (hrn : rn ≤ rc) (hz : ∀ z ∈ zs, -9223372036854775808 ≤ z ∧ z ≤ 9223372036854775807) (cut : Int) (hc0 : -9223372036854775808 ≤ cut) (hc1 : cut ≤ 9223372036854775807) :
    Calls Tryz.prog 8 #[.agg cs.toArray, .slice RA rn rc, .int .i64 cut] w fun e w' => e = .returned (.bool true) ∧ Below w.heap.size w w' := by
  obtain ⟨A, c, B, d, rfl, _⟩ := VC.of hK
  obtain ⟨W0, hW0⟩ : ∃ W0, w.alloc (.cells #[.int .i64 x.kind, .bool x.truth, .bool x.neg, .string x.digits, .int .i64 x.exp, .string x.text, .slice A x.list.length c, .slice B x.fields.length d] 27) = W0 := ⟨_, rfl⟩
  have hB0 : Below w.heap.size w W0 := by rw [← hW0]; exact (Below.refl _ w).alloc (Nat.le_refl _) _
  have hk : W0.heap[w.heap.size]? = some (.cells #[.int .i64 x.kind, .bool x.truth, .bool x.neg, .string x.digits, .int .i64 x.exp, .string x.text, .slice A x.list.length c, .slice B x.fields.length d] 27 (0, 0)) := by rw [← hW0]; exact heap_alloc_new w _
  have hc0' := cellAll hk
  have hK0 := Aside0.mk (kV.K_below hB0 hK)
  have cH := Aside0.mk (heavy_any x W0 _ hK0.out hx)
  unfold JV.cells at *
  replace hP := Aside0.mk hP
  replace hB0 := Aside0.mk hB0
  replace hk := Aside0.mk hk
  replace hR := Aside0.mk hR
  replace hz := Aside0.mk hz
  replace hc0 := Aside0.mk hc0
  replace hc1 := Aside0.mk hc1
  have hxi := fits_ints x hx
  have hNi := norm_isN x
  clear hK hx
  go_enter Tryz.func8, Tryz.ntmps8
  go_wp2_with (go_at_call 9; refine cH.out.mono ?_; clear cH; rintro e w1 ⟨b1, rfl, hb1x, hb1⟩; have hL1 := Aside0.mk (hB0.out.trans (hb1.mono hB0.out.size)); have hk1 := Aside0.mk ((hb1.block _ (blk_lt hk.out)).trans hk.out); have hc1' := cellAll hk1.out; have hK1 := Aside0.mk (kV.K_below hb1 hK0.out); clear hc0' hb1)
  · go_ret; exact ⟨rfl, hL1.out⟩
  have hxw := hb1x ‹b1 = false›
  clear hb1x
  have cR := fun (W : World) (hb : Below w1.heap.size w1 W) => print_any x W _ (kV.K_below hb hK1.out) ((hP.out.below (hL1.out.trans (hb.mono hL1.out.size))).facts) (by omega) hxi
  have cA := Aside0.mk (awake_any E w1 (hP.out.below hL1.out))
  obtain ⟨q, hq⟩ : ∃ q, x.print = q := ⟨_, rfl⟩
  rw [hq] at cR
  obtain ⟨s, hs⟩ : ∃ s : ByteArray, (⟨q.toArray⟩ : ByteArray) = s := ⟨_, rfl⟩
  rw [hs] at cR
  have hqs : s.size = q.length := by rw [← hs]; exact size_mk q
  have hne : q ≠ [] := by
    obtain ⟨c1, q1, e1, _⟩ := put_first x.norm hNi
    rw [← hq]
    show x.norm.put ≠ []
    rw [e1]; simp
  have hql : 0 < q.length := List.length_pos_iff.2 hne
  have hs0 : ((s.size : Int) == 0) = false := by rw [beq_eq_false_iff_ne]; omega
  have hs1 : (0 : Int) < (s.size : Int) := by omega
  replace hqs := Aside0.mk hqs
  replace hq := Aside0.mk hq
  replace hs := Aside0.mk hs
  by_cases hbig : 524288 < s.size
  · have hs2 : (524288 : Int) < (s.size : Int) := by omega
    go_wp2_with (first
      | (go_at_call 12; refine (cR _ hb2.out).mono ?_; clear cR; rintro e w3 ⟨rfl, hb3'⟩; have hb3 := Aside0.mk (hb2.out.trans (hb3'.mono hb2.out.size)); have hk3 := Aside0.mk ((hb3.out.block _ (blk_lt hk1.out)).trans hk1.out); clear hc2 hb3')
      | (go_at_call 10; refine cA.out.mono ?_; clear cA; rintro e w2 ⟨rfl, hb2'⟩; have hb2 := Aside0.mk hb2'; have hc2 := cellAll ((hb2'.block _ (blk_lt hk1.out)).trans hk1.out); clear hb2' hc1'))
    go_ret
    refine ⟨?_, hL1.out.trans (hb3.out.mono hL1.out.size)⟩
    show Ending.returned (.bool (decide (0 < s.size))) = _
    rw [decide_eq_true (by omega)]
  have hs2 : ¬ (524288 : Int) < (s.size : Int) := by omega
  go_wp2_with (first
    | (go_at_call 12; refine (cR _ hb2.out).mono ?_; clear cR; rintro e w3 ⟨rfl, hb3'⟩; have hb3 := Aside0.mk (hb2.out.trans (hb3'.mono hb2.out.size)); have hk3 := Aside0.mk ((hb3.out.block _ (blk_lt hk1.out)).trans hk1.out); clear hc2 hb3')
    | (go_at_call 10; refine cA.out.mono ?_; clear cA; rintro e w2 ⟨rfl, hb2'⟩; have hb2 := Aside0.mk hb2'; have hc2 := cellAll ((hb2'.block _ (blk_lt hk1.out)).trans hk1.out); clear hb2' hc1'))
  clear hs0 hs2
  obtain ⟨W4, hW4⟩ : ∃ W4, w3.alloc (.cells #[.string ⟨#[]⟩, .string ⟨#[32]⟩, .string ⟨#[10, 9]⟩, .string ⟨#[13, 32]⟩] 9) = W4 := ⟨_, rfl⟩
  have hB4 : Below w3.heap.size w3 W4 := by rw [← hW4]; exact (Below.refl _ w3).alloc (Nat.le_refl _) _
  have hg4 : W4.heap[w3.heap.size]? = some (.cells #[.string ⟨#[]⟩, .string ⟨#[32]⟩, .string ⟨#[10, 9]⟩, .string ⟨#[13, 32]⟩] 9 (0, 0)) := by rw [← hW4]; exact heap_alloc_new w3 _
  have hL4 := Aside0.mk (hL1.out.trans ((hb3.out.trans (hB4.mono hb3.out.size)).mono hL1.out.size))
  have hk4 := Aside0.mk ((hB4.block _ (blk_lt hk3.out)).trans hk3.out)
  have hR4 := hR.out.below hL4.out
  rw [hW4]
  clear hW4
  replace hg4 := Aside0.mk hg4
  replace hB4 := Aside0.mk hB4
  have hzn : zs.length = rn := hR4.1
  have hsq : Aside0 (s.data.toList = q) := ⟨by rw [← hs.out]⟩
  have hs5 : (s.size : Int) ≤ 524288 := by omega
  go_loopw [11, 12, 13, 14] (fun v b f i wr => ∃ (j fr : Nat) (wn : Bool) (L : List UInt8), i = .int .i64 j ∧ f = .int .i64 fr ∧ b = .bool wn ∧ fr ≤ j ∧ fr ≤ s.size ∧ j ≤ s.size + 1 ∧ L.length ≤ 5 * fr ∧ wr.ownsRow W4.heap.size 5 1 v (nat8 L).length (nums .u8 (nat8 L)) ∧ Below W4.heap.size W4 wr ∧ Aside0 (GapAt zs q j fr wn L)) (fun _ _ _ i _ => s.size + 1 - (intOf i).toNat)
  case atStart => exact ⟨0, 0, false, [], rfl, rfl, rfl, Nat.le_refl _, Nat.zero_le _, Nat.zero_le _, Nat.le_refl _, own_nil _ _ _ _, Below.refl _ _, ⟨by unfold GapAt; simp⟩⟩
  case round =>
    obtain ⟨j, fr, wn, L, rfl, rfl, rfl, hfj, hfs, hj, hLl, hown, hB, hA⟩ := hrel
    have hnl := nat8_len L
    by_cases hlt : j < s.size
    · have hlt2 : (j : Int) < (s.size : Int) := by omega
      have hjq : j < q.length := by have := hqs.out; omega
      have hbt : (s[j]'hlt) = q[j]'hjq := by have := hs.out; subst this; rfl
      obtain ⟨u, hu⟩ : ∃ u, q[j]'hjq = u := ⟨_, rfl⟩
      rw [hu] at hbt
      have hb : (s[j]'hlt).toNat = u.toNat := by rw [hbt]
      have huc : ∀ c : UInt8, (((u.toNat : Int)) == (c.toNat : Int)) = decide (u = c) := fun c => by
        by_cases h : u = c
        · subst h; simp
        · rw [decide_eq_false h]
          have : u.toNat ≠ c.toNat := fun e => h (UInt8.toNat_inj.1 e)
          simp; omega
      generalize hun : u.toNat = un at *
      by_cases hesc : wn = true ∧ u = 92
      · obtain ⟨rfl, rfl⟩ := hesc
        obtain rfl : un = 92 := hun.symm
        have hA2 := Aside0.mk (hA.out.esc hfj hjq hu)
        go_wp2_with fail
        go_roundw
        case rel => exact ⟨j + 2, fr, true, L, by go_num, rfl, rfl, by omega, hfs, by omega, hLl, hown, hB, hA2⟩
        case measure => simp [intOf]; omega
      by_cases hq34 : u = 34
      · subst hq34
        obtain rfl : un = 34 := hun.symm
        have hA2 := Aside0.mk (hA.out.quote hfj hjq hu)
        cases wn with
        | true =>
          go_wp2_with fail
          go_roundw
          case rel => exact ⟨j + 1, fr, false, L, by go_num, rfl, rfl, by omega, hfs, by omega, hLl, hown, hB, hA2⟩
          case measure => simp [intOf]; omega
        | false =>
          go_wp2_with fail
          go_roundw
          case rel => exact ⟨j + 1, fr, true, L, by go_num, rfl, rfl, by omega, hfs, by omega, hLl, hown, hB, hA2⟩
          case measure => simp [intOf]; omega
      have e34 : ((un : Int) == 34) = false := by rw [show (34 : Int) = (((34 : UInt8).toNat : Nat) : Int) from rfl, huc, decide_eq_false hq34]
      cases wn with
      | true =>
        have hne92 : u ≠ 92 := fun e => hesc ⟨rfl, e⟩
        have e92 : ((un : Int) == 92) = false := by rw [show (92 : Int) = (((92 : UInt8).toNat : Nat) : Int) from rfl, huc, decide_eq_false hne92]
        have hA2 := Aside0.mk (hA.out.in_ hfj hjq (by rw [hu]; exact hq34) (by rw [hu]; exact hne92))
        clear huc
        go_wp2_with fail
        go_roundw
        case rel => exact ⟨j + 1, fr, true, L, by go_num, rfl, rfl, by omega, hfs, by omega, hLl, hown, hB, hA2⟩
        case measure => simp [intOf]; omega
      | false =>
        by_cases hbk : isBrk u = true
        · have hor : un = 91 ∨ un = 93 ∨ un = 123 ∨ un = 125 ∨ un = 44 ∨ un = 58 := by
            rw [← hun]
            unfold isBrk at hbk
            simp only [Bool.or_eq_true, beq_iff_eq] at hbk
            rcases hbk with ((((h | h) | h) | h) | h) | h <;> rw [h] <;> decide
          by_cases hjn : j < zs.length
          · have hA2 := Aside0.mk (hA.out.brk hfj hjq (by rw [hu]; exact hq34) (by rw [hu]; exact hbk) hjn)
            rw [hu] at hA2
            have hjn2 : (j : Int) < (rn : Int) := by omega
            obtain ⟨ad, rfl, hcl⟩ := (hR4.below hB).2.2 (by omega)
            have hcj := hcl j (by omega)
            obtain ⟨z, hzj⟩ : ∃ z, zs.getD j 0 = z := ⟨_, rfl⟩
            rw [hzj] at hcj
            have hzb := hz.out z (by rw [← hzj, List.getD_eq_getElem?_getD, List.getElem?_eq_getElem hjn]; exact List.getElem_mem hjn)
            have hzd := tdiv4 z hzb.1 hzb.2
            have cK := fun W => pick_any z 4 W hzb.1 hzb.2 (by decide) (by decide)
            have cK2 := fun W => pick_any (z.tdiv 4) 4 W hzd.1 hzd.2 (by decide) (by decide)
            have hk1' := pickN_in z 4 (by decide)
            have hk2' := pickN_in (z.tdiv 4) 4 (by decide)
            have hG1 : gG zs j = gapB (pickN z 4) := by unfold gG; rw [hzj]
            have hG2 : gH zs j = gapB (pickN (z.tdiv 4) 4) := by unfold gH; rw [hzj]
            rw [hG1, hG2] at hA2
            clear hG1 hG2
            generalize pickN z 4 = k1 at *
            generalize pickN (z.tdiv 4) 4 = k2 at *
            have hgr := gap_cell ((hB.block _ (blk_lt hg4.out)).trans hg4.out)
            have hgk1 := hgr k1 hk1'.1 hk1'.2
            have hgk2 := hgr k2 hk2'.1 hk2'.2
            obtain ⟨k10, k11⟩ := hk1'
            obtain ⟨k20, k21⟩ := hk2'
            have hl1 := gapB_len k1
            have hl2 := gapB_len k2
            obtain ⟨g1, hg1⟩ : ∃ g1 : ByteArray, (⟨(gapB k1).toArray⟩ : ByteArray) = g1 := ⟨_, rfl⟩
            obtain ⟨g2, hg2⟩ : ∃ g2 : ByteArray, (⟨(gapB k2).toArray⟩ : ByteArray) = g2 := ⟨_, rfl⟩
            rw [hg1] at hgk1
            rw [hg2] at hgk2
            clear hcl huc e34 hgr
            replace hzj := Aside0.mk hzj
            replace hu := Aside0.mk hu
            have hle1 : (fr : Int) ≤ (j : Int) := by omega
            have hle2 : (j : Int) ≤ (s.size : Int) := by omega
            have hownd := pw_own_below (w1 := wr.drew) hown (below_drew (Below.refl _ _))
            have hBd := below_drew hB
            have hyb := gap_bytes s q hsq.out fr j (by omega) hlt k1 k2 u hu.out g1 g2 hg1 hg2
            have hyl := hyb.2
            have hBs := hB.size
            replace hyb := Aside0.mk hyb.1
            replace hg1 := Aside0.mk hg1
            replace hg2 := Aside0.mk hg2
            have hx1 : (s.extract fr j).size = j - fr := by rw [ByteArray.size_extract]; omega
            have hx2 : (s.extract j (j + 1)).size = 1 := by rw [ByteArray.size_extract]; omega
            have hg1s : g1.size ≤ 2 := by rw [← hg1.out, size_mk]; exact hl1
            have hg2s : g2.size ≤ 2 := by rw [← hg2.out, size_mk]; exact hl2
            have ea1 := fun W => run_string_add_sum (P := Tryz.prog) W (s.extract fr j) g1 (by omega)
            have ea2 := fun W => run_string_add_sum (P := Tryz.prog) W (s.extract fr j ++ g1) (s.extract j (j + 1)) (by rw [ByteArray.size_append]; omega)
            have ea3 := fun W => run_string_add_sum (P := Tryz.prog) W (s.extract fr j ++ g1 ++ s.extract j (j + 1)) g2 (by rw [ByteArray.size_append, ByteArray.size_append]; omega)
            replace hx1 := Aside0.mk hx1
            replace hx2 := Aside0.mk hx2
            have hw1 : IntKind.i64.wrap ((j : Int) + 1) = (j : Int) + 1 := by rw [IntKind.wrap_i64]; omega
            have hle3 : (j : Int) + 1 ≤ (s.size : Int) := by omega
            have hle4 : (j : Int) ≤ (j : Int) + 1 := by omega
            have hle5 : (0 : Int) ≤ (j : Int) + 1 := by omega
            have htn : ((j : Int) + 1).toNat = j + 1 := by omega
            have hwz : IntKind.i64.wrap (z.tdiv 4) = z.tdiv 4 := by rw [IntKind.wrap_i64]; omega
            clear hown hB
            have hLn : (L ++ ((q.drop fr).take (j - fr) ++ (gapB k1 ++ (u :: gapB k2)))).length ≤ 5 * (j + 1) := by
              have : ((q.drop fr).take (j - fr)).length ≤ j - fr := List.length_take_le _ _
              simp only [List.length_append, List.length_cons]
              omega
            replace hLn := Aside0.mk hLn
            rcases hor with rfl | rfl | rfl | rfl | rfl | rfl
            all_goals (go_wp2_with (go_at_call 32; refine (cK _).mono ?_; rintro e w5 ⟨rfl, rfl⟩))
            all_goals (go_region_law (first
                | (refine str_append_step (w0 := W4) W4.heap.size (by rfl) (.tmp 112) (.tmp 134) 55 9 5 (by rfl) Tryz.underlying55 Tryz.underlying9 (by kernel_rfl) _ (nat8 L) (s.extract fr j ++ g1 ++ s.extract j (j + 1) ++ g2) (by rfl) (by rfl) hownd hBd hBs (by omega) ?_; intro v1 w6 hown1 hB1 _; rw [hyb.out, ← nat8_app] at hown1; replace hown1 := Aside0.mk hown1)
                | (go_simp; go_at_call 32; refine (cK2 _).mono ?_; rintro e w5 ⟨rfl, rfl⟩)))
            all_goals (go_wp2_with fail)
            all_goals go_roundw
            all_goals (try (case measure => simp [intOf]; omega))
            all_goals (exact ⟨j + 1, j + 1, false, _, by go_num, by go_num, rfl, Nat.le_refl _, by omega, by omega, hLn.out, hown1.out, hB1, hA2⟩)
          · have hA2 := Aside0.mk (hA.out.out hfj hjq (by rw [hu]; exact hq34) (by rintro ⟨_, h⟩; exact hjn h))
            have hjn2 : ¬ (j : Int) < (rn : Int) := by omega
            clear huc e34
            rcases hor with rfl | rfl | rfl | rfl | rfl | rfl
            all_goals (go_wp2_with fail)
            all_goals go_roundw
            all_goals (try (case measure => simp [intOf]; omega))
            all_goals (exact ⟨j + 1, fr, false, L, by go_num, rfl, rfl, by omega, hfs, by omega, hLl, hown, hB, hA2⟩)
        · have hA2 := Aside0.mk (hA.out.out hfj hjq (by rw [hu]; exact hq34) (by rw [hu]; rintro ⟨h, _⟩; exact hbk h))
          have hbk2 : u ≠ 91 ∧ u ≠ 93 ∧ u ≠ 123 ∧ u ≠ 125 ∧ u ≠ 44 ∧ u ≠ 58 := by
            unfold isBrk at hbk
            simp only [Bool.or_eq_true, beq_iff_eq, not_or] at hbk
            obtain ⟨⟨⟨⟨⟨h1, h2⟩, h3⟩, h4⟩, h5⟩, h6⟩ := hbk
            exact ⟨h1, h2, h3, h4, h5, h6⟩
          have e1 : ((un : Int) == 91) = false := by rw [show (91 : Int) = (((91 : UInt8).toNat : Nat) : Int) from rfl, huc, decide_eq_false hbk2.1]
          have e2 : ((un : Int) == 93) = false := by rw [show (93 : Int) = (((93 : UInt8).toNat : Nat) : Int) from rfl, huc, decide_eq_false hbk2.2.1]
          have e3 : ((un : Int) == 123) = false := by rw [show (123 : Int) = (((123 : UInt8).toNat : Nat) : Int) from rfl, huc, decide_eq_false hbk2.2.2.1]
          have e4 : ((un : Int) == 125) = false := by rw [show (125 : Int) = (((125 : UInt8).toNat : Nat) : Int) from rfl, huc, decide_eq_false hbk2.2.2.2.1]
          have e5 : ((un : Int) == 44) = false := by rw [show (44 : Int) = (((44 : UInt8).toNat : Nat) : Int) from rfl, huc, decide_eq_false hbk2.2.2.2.2.1]
          have e6 : ((un : Int) == 58) = false := by rw [show (58 : Int) = (((58 : UInt8).toNat : Nat) : Int) from rfl, huc, decide_eq_false hbk2.2.2.2.2.2]
          clear huc hbk hbk2
          go_wp2_with fail
          go_roundw
          case rel => exact ⟨j + 1, fr, false, L, by go_num, rfl, rfl, by omega, hfs, by omega, hLl, hown, hB, hA2⟩
          case measure => simp [intOf]; omega
    · have hTe := hA.out.ends (by have := hqs.out; omega) hfj
      obtain ⟨T, hT⟩ : ∃ T : ByteArray, (⟨(wideF zs.length (gG zs) (gH zs) false q 0).toArray⟩ : ByteArray) = T := ⟨_, rfl⟩
      have hTs : T.size = L.length + (q.length - fr) := by rw [← hT, size_mk, ← hTe, List.length_append, List.length_drop]
      have hyb := extract_bytes s fr (s.size - fr) (by omega)
      rw [show fr + (s.size - fr) = s.size by omega, hsq.out, List.take_of_length_le (by rw [List.length_drop]; have := hqs.out; omega)] at hyb
      have hxs : (s.extract fr s.size).size = s.size - fr := by rw [ByteArray.size_extract]; omega
      have hcT : strOfNums (nat8 L ++ bytesOf (s.extract fr s.size)) = T := by
        rw [hyb, ← nat8_app, hTe, ← hT]
        exact strOf_back _
      have hlt2 : decide ((j : Int) < (s.size : Int)) = false := by simp; omega
      have hle1 : (fr : Int) ≤ (s.size : Int) := by omega
      have hBs := hB.size
      have hL5 := Aside0.mk hL4.out
      replace hTe := Aside0.mk hTe
      replace hTs := Aside0.mk hTs
      replace hyb := Aside0.mk hyb
      replace hxs := Aside0.mk hxs
      replace hT := Aside0.mk hT
      replace hcT := Aside0.mk hcT
      by_cases hTb : 1048576 < T.size
      · have hTb2 : (1048576 : Int) < (T.size : Int) := by omega
        go_wp2_with ((with_reducible refine gate_builtin (b := .append) (xs := #[.tmp 138, .tmp 141]) rfl ?_); at_builtin; refine print_append_str (w0 := W4) W4.heap.size rfl (.tmp 138) (.tmp 141) 55 9 5 rfl Tryz.underlying55 Tryz.underlying9 (by kernel_rfl) _ (nat8 L) (s.extract fr s.size) rfl rfl hown hB (by have := hB.size; omega) (by rw [hxs.out]; omega) ?_; intro v1 w6 hown1 hB1 _; have hcv := own_string (P := Tryz.prog) (src := 55) (dst := 9) (w := w6) (e' := 5) (e := 5) (base := W4.heap.size) Tryz.underlying55 Tryz.underlying5 Tryz.underlying9 hown1; rw [hcT.out] at hcv)
        go_ret
        exact ⟨rfl, hL5.out.trans (hB1.mono hL5.out.size)⟩
      have hTb2 : ¬ (1048576 : Int) < (T.size : Int) := by omega
      have hTb3 : T.size ≤ 1048576 := by omega
      have hsb3 : s.size ≤ 1048576 := by omega
      have hqy : x.norm.put = q := hq.out
      have hsy : (⟨x.norm.put.toArray⟩ : ByteArray) = s := by rw [hqy]; exact hs.out
      have hgs := gaps_same (n := zs.length) (G := gG zs) (H := gH zs) (fun i => gapB_gaps _) (fun i => gapB_gaps _) x.norm hNi
      rw [hqy, hT.out] at hgs
      obtain ⟨kk, hkk, hkl⟩ : ∃ kk : Nat, pickN cut (s.size : Int) = (kk : Int) ∧ kk < s.size := by
        obtain ⟨h1, h2⟩ := pickN_in cut (s.size : Int) (by omega)
        exact ⟨(pickN cut (s.size : Int)).toNat, by omega, by omega⟩
      have cK := fun W => pick_any cut (s.size : Int) W hc0.out hc1.out (by omega) (by omega)
      rw [hkk] at cK
      clear hkk
      have hkl2 : (kk : Int) ≤ (s.size : Int) := by omega
      have hU : (∃ k e, parseTo (s.extract 0 kk) = .no k e) ∨ ((∃ z jz, parseTo (s.extract 0 kk) = .ok z jz) ∧ x.kind = 2) := by
        cases hp : parseTo (s.extract 0 kk) with
        | no k e => exact .inl ⟨k, e, rfl⟩
        | ok z jz =>
          refine .inr ⟨⟨z, jz, rfl⟩, ?_⟩
          by_cases h2 : x.kind = 2
          · exact h2
          · exfalso
            obtain ⟨k, e, hc⟩ := parse_cut x.norm hNi (fun h => h2 (norm_kind2 x h)) kk (by rw [hqy]; have := hqs.out; omega)
            have he : (⟨(x.norm.put.take kk).toArray⟩ : ByteArray) = s.extract 0 kk := by
              rw [hqy, ← hs.out]
              apply ByteArray.ext
              apply Array.ext'
              simp [ByteArray.data_extract, List.extract_eq_take_drop]
            rw [he, hp] at hc
            cases hc
      have hps : (x.norm.deep ≤ 64 ∧ ∃ j, parseTo s = .ok x.norm j) ∨ (64 < x.norm.deep ∧ ∃ k e, parseTo s = .no k e) := by
        by_cases hd : x.norm.deep ≤ 64
        · obtain ⟨j1, h1⟩ := parse_told x.norm hNi hd
          rw [hsy] at h1
          exact .inl ⟨hd, j1, h1⟩
        · obtain ⟨k, e, h1⟩ := parse_too_deep x.norm hNi (by omega)
          rw [hsy] at h1
          exact .inr ⟨by omega, k, e, h1⟩
      clear hqy hsy
      generalize x.norm = y at *
      replace hTb3 := Aside0.mk hTb3
      replace hsb3 := Aside0.mk hsb3
      rcases hps with ⟨hd, j1, hp1⟩ | ⟨hd, hp1⟩
      · obtain ⟨j2, hp2⟩ : ∃ j, parseTo T = .ok y j := by
          rcases hgs with ⟨_, h⟩ | ⟨h, _⟩
          · exact h
          · omega
        clear hgs hd
        rcases hU with hU | ⟨⟨z, jz, hU⟩, hk2⟩
        · go_wp2_with (first
            | (go_at_call 29; refine (parse_ok E T _ hTb3.out (hP.out.below hL8.out) y j2 hp2).mono ?_; rintro e w9 ⟨A9, c9, B9, d9, rfl, hK9, hb9⟩; have hL9 := Aside0.mk (hL8.out.trans (hb9.mono hL8.out.size)); have hb9' := Aside0.mk hb9; clear hb9)
            | (go_at_call 29; refine (parse_ok E s _ hsb3.out (hP.out.below hL6.out) y j1 hp1).mono ?_; rintro e w7 ⟨A7, c7, B7, d7, rfl, hK7, hb7⟩; have hB8 := (Below.refl w7.heap.size w7).alloc (Nat.le_refl _) (.cells #[.int .i64 y.kind, .bool y.truth, .bool y.neg, .string y.digits, .int .i64 y.exp, .string y.text, .slice A7 y.list.length c7, .slice B7 y.fields.length d7] 27); have hL8 := Aside0.mk (hL6.out.trans ((hb7.trans (hB8.mono hb7.size)).mono hL6.out.size)); have hK8 := Aside0.mk (kV.K_below hB8 hK7); have hx8 := Aside0.mk ((hB8.block _ (blk_lt ((hb7.block _ (blk_lt hx6.out)).trans hx6.out))).trans ((hb7.block _ (blk_lt hx6.out)).trans hx6.out)); have hy8 := Aside0.mk (heap_alloc_new w7 (.cells #[.int .i64 y.kind, .bool y.truth, .bool y.neg, .string y.digits, .int .i64 y.exp, .string y.text, .slice A7 y.list.length c7, .slice B7 y.fields.length d7] 27)); clear hB8 hK7 hb7)
            | ((with_reducible refine gate_builtin (b := .append) (xs := #[.tmp 138, .tmp 141]) rfl ?_); at_builtin; refine print_append_str (w0 := W4) W4.heap.size rfl (.tmp 138) (.tmp 141) 55 9 5 rfl Tryz.underlying55 Tryz.underlying9 (by kernel_rfl) _ (nat8 L) (s.extract fr s.size) rfl rfl hown hB (by have := hB.size; omega) (by rw [hxs.out]; omega) ?_; intro v1 w6 hown1 hB1 _; have hcv := own_string (P := Tryz.prog) (src := 55) (dst := 9) (w := w6) (e' := 5) (e := 5) (base := W4.heap.size) Tryz.underlying55 Tryz.underlying5 Tryz.underlying9 hown1; rw [hcT.out] at hcv; have hL6 := Aside0.mk (hL5.out.trans (hB1.mono hL5.out.size)); have hx6 := Aside0.mk ((hB1.block _ (blk_lt hk4.out)).trans hk4.out); clear hB1 hown1))
          have hB10 := (Below.refl w9.heap.size w9).alloc (Nat.le_refl _) (.cells #[.int .i64 y.kind, .bool y.truth, .bool y.neg, .string y.digits, .int .i64 y.exp, .string y.text, .slice A9 y.list.length c9, .slice B9 y.fields.length d9] 27)
          have hz10 := heap_alloc_new w9 (.cells #[.int .i64 y.kind, .bool y.truth, .bool y.neg, .string y.digits, .int .i64 y.exp, .string y.text, .slice A9 y.list.length c9, .slice B9 y.fields.length d9] 27)
          have hx10 := (hB10.block _ (blk_lt ((hb9'.out.block _ (blk_lt hx8.out)).trans hx8.out))).trans ((hb9'.out.block _ (blk_lt hx8.out)).trans hx8.out)
          have hy10 := (hB10.block _ (blk_lt ((hb9'.out.block _ (blk_lt hy8.out)).trans hy8.out))).trans ((hb9'.out.block _ (blk_lt hy8.out)).trans hy8.out)
          have hKA := kV.K_below hB10 (kV.K_below hb9'.out hK8.out)
          have hKB := kV.K_below hB10 hK9
          have hL10 := hL9.out.trans (hB10.mono hL9.out.size)
          generalize w9.alloc (.cells #[.int .i64 y.kind, .bool y.truth, .bool y.neg, .string y.digits, .int .i64 y.exp, .string y.text, .slice A9 y.list.length c9, .slice B9 y.fields.length d9] 27) = W10 at *
          go_quiet (fail)
          have hbn := pw_below_drewN (Below.refl W10.heap.size W10) nq
          have hL11 := Aside0.mk (hL10.trans (hbn.mono hL10.size))
          have hx11 := Aside0.mk ((hbn.block _ (blk_lt hx10)).trans hx10)
          have hy11 := (hbn.block _ (blk_lt hy10)).trans hy10
          have hz11 := (hbn.block _ (blk_lt hz10)).trans hz10
          have hKA11 := Aside0.mk (kV.K_below hbn hKA)
          have hKB11 := Aside0.mk (kV.K_below hbn hKB)
          generalize W10.drewN nq = W11 at *
          have hcy11 := cellAll hy11
          have hcz11 := cellAll hz11
          clear hbn hx10 hy10 hz10 hKA hKB hL10 hB10 hy11 hz11
          go_wp2_with (first
            | (go_at_call 29; refine (parse_fault E (s.extract 0 kk) _ (hP.out.below hL12.out) (.inr hU)).mono ?_; rintro e w14 ⟨k14, kk14, a14, rfl, _, _, _, _, hb14⟩; have hL14 := Aside0.mk (hL12.out.trans (hb14.mono hL12.out.size)); clear hb14)
            | (go_at_call 32; refine (cK _).mono ?_; rintro e w13 ⟨rfl, rfl⟩)
            | (go_at_call 22; refine (like_same y _ _ _ hKA11.out hKB11.out).mono ?_; rintro e w12 ⟨rfl, hb12⟩; have hL12 := Aside0.mk (hL11.out.trans (hb12.mono hL11.out.size)); have hx12 := Aside0.mk ((hb12.block _ (blk_lt hx11.out)).trans hx11.out); clear hb12 hcy11 hcz11))
          go_ret
          exact ⟨rfl, hL14.out.alloc hL14.out.size _⟩
        · have hUs : (s.extract 0 kk).size ≤ 1048576 := by rw [ByteArray.size_extract]; have := hsb3.out; omega
          have hk2' : (x.kind == 2) = true := by rw [hk2]; rfl
          replace hk2 := Aside0.mk hk2
          go_wp2_with (first
            | (go_at_call 29; refine (parse_ok E T _ hTb3.out (hP.out.below hL8.out) y j2 hp2).mono ?_; rintro e w9 ⟨A9, c9, B9, d9, rfl, hK9, hb9⟩; have hL9 := Aside0.mk (hL8.out.trans (hb9.mono hL8.out.size)); have hb9' := Aside0.mk hb9; clear hb9)
            | (go_at_call 29; refine (parse_ok E s _ hsb3.out (hP.out.below hL6.out) y j1 hp1).mono ?_; rintro e w7 ⟨A7, c7, B7, d7, rfl, hK7, hb7⟩; have hB8 := (Below.refl w7.heap.size w7).alloc (Nat.le_refl _) (.cells #[.int .i64 y.kind, .bool y.truth, .bool y.neg, .string y.digits, .int .i64 y.exp, .string y.text, .slice A7 y.list.length c7, .slice B7 y.fields.length d7] 27); have hL8 := Aside0.mk (hL6.out.trans ((hb7.trans (hB8.mono hb7.size)).mono hL6.out.size)); have hK8 := Aside0.mk (kV.K_below hB8 hK7); have hx8 := Aside0.mk ((hB8.block _ (blk_lt ((hb7.block _ (blk_lt hx6.out)).trans hx6.out))).trans ((hb7.block _ (blk_lt hx6.out)).trans hx6.out)); have hy8 := Aside0.mk (heap_alloc_new w7 (.cells #[.int .i64 y.kind, .bool y.truth, .bool y.neg, .string y.digits, .int .i64 y.exp, .string y.text, .slice A7 y.list.length c7, .slice B7 y.fields.length d7] 27)); clear hB8 hK7 hb7)
            | ((with_reducible refine gate_builtin (b := .append) (xs := #[.tmp 138, .tmp 141]) rfl ?_); at_builtin; refine print_append_str (w0 := W4) W4.heap.size rfl (.tmp 138) (.tmp 141) 55 9 5 rfl Tryz.underlying55 Tryz.underlying9 (by kernel_rfl) _ (nat8 L) (s.extract fr s.size) rfl rfl hown hB (by have := hB.size; omega) (by rw [hxs.out]; omega) ?_; intro v1 w6 hown1 hB1 _; have hcv := own_string (P := Tryz.prog) (src := 55) (dst := 9) (w := w6) (e' := 5) (e := 5) (base := W4.heap.size) Tryz.underlying55 Tryz.underlying5 Tryz.underlying9 hown1; rw [hcT.out] at hcv; have hL6 := Aside0.mk (hL5.out.trans (hB1.mono hL5.out.size)); have hx6 := Aside0.mk ((hB1.block _ (blk_lt hk4.out)).trans hk4.out); clear hB1 hown1))
          have hB10 := (Below.refl w9.heap.size w9).alloc (Nat.le_refl _) (.cells #[.int .i64 y.kind, .bool y.truth, .bool y.neg, .string y.digits, .int .i64 y.exp, .string y.text, .slice A9 y.list.length c9, .slice B9 y.fields.length d9] 27)
          have hz10 := heap_alloc_new w9 (.cells #[.int .i64 y.kind, .bool y.truth, .bool y.neg, .string y.digits, .int .i64 y.exp, .string y.text, .slice A9 y.list.length c9, .slice B9 y.fields.length d9] 27)
          have hx10 := (hB10.block _ (blk_lt ((hb9'.out.block _ (blk_lt hx8.out)).trans hx8.out))).trans ((hb9'.out.block _ (blk_lt hx8.out)).trans hx8.out)
          have hy10 := (hB10.block _ (blk_lt ((hb9'.out.block _ (blk_lt hy8.out)).trans hy8.out))).trans ((hb9'.out.block _ (blk_lt hy8.out)).trans hy8.out)
          have hKA := kV.K_below hB10 (kV.K_below hb9'.out hK8.out)
          have hKB := kV.K_below hB10 hK9
          have hL10 := hL9.out.trans (hB10.mono hL9.out.size)
          generalize w9.alloc (.cells #[.int .i64 y.kind, .bool y.truth, .bool y.neg, .string y.digits, .int .i64 y.exp, .string y.text, .slice A9 y.list.length c9, .slice B9 y.fields.length d9] 27) = W10 at *
          go_quiet (fail)
          have hbn := pw_below_drewN (Below.refl W10.heap.size W10) nq
          have hL11 := Aside0.mk (hL10.trans (hbn.mono hL10.size))
          have hx11 := Aside0.mk ((hbn.block _ (blk_lt hx10)).trans hx10)
          have hy11 := (hbn.block _ (blk_lt hy10)).trans hy10
          have hz11 := (hbn.block _ (blk_lt hz10)).trans hz10
          have hKA11 := Aside0.mk (kV.K_below hbn hKA)
          have hKB11 := Aside0.mk (kV.K_below hbn hKB)
          generalize W10.drewN nq = W11 at *
          have hcy11 := cellAll hy11
          have hcz11 := cellAll hz11
          clear hbn hx10 hy10 hz10 hKA hKB hL10 hB10 hy11 hz11
          go_wp2_with (first
            | (go_at_call 29; refine (parse_ok E (s.extract 0 kk) _ hUs (hP.out.below hL12.out) z jz hU).mono ?_; rintro e w14 ⟨A14, c14, B14, d14, rfl, _, hb14⟩; have hL14 := Aside0.mk (hL12.out.trans (hb14.mono hL12.out.size)); have hx14 := (hb14.block _ (blk_lt hx12.out)).trans hx12.out; have hcx14 := cellAll ((heap_alloc_old w14 (.cells #[.int .i64 z.kind, .bool z.truth, .bool z.neg, .string z.digits, .int .i64 z.exp, .string z.text, .slice A14 z.list.length c14, .slice B14 z.fields.length d14] 27) (blk_lt hx14)).trans hx14); clear hx14; clear hb14)
            | (go_at_call 32; refine (cK _).mono ?_; rintro e w13 ⟨rfl, rfl⟩)
            | (go_at_call 22; refine (like_same y _ _ _ hKA11.out hKB11.out).mono ?_; rintro e w12 ⟨rfl, hb12⟩; have hL12 := Aside0.mk (hL11.out.trans (hb12.mono hL11.out.size)); have hx12 := Aside0.mk ((hb12.block _ (blk_lt hx11.out)).trans hx11.out); clear hb12 hcy11 hcz11))
          go_ret
          exact ⟨rfl, hL14.out.alloc hL14.out.size _⟩
      · have hp2 : ∃ k e, parseTo T = .no k e := by
          rcases hgs with ⟨h, _⟩ | ⟨_, h⟩
          · omega
          · exact h
        clear hgs hd
        rcases hU with hU | ⟨⟨z, jz, hU⟩, hk2⟩
        · go_wp2_with (first
            | (go_at_call 29; refine (parse_fault E T _ (hP.out.below hL8.out) (.inr hp2)).mono ?_; rintro e w9 ⟨k9, kk9, a9, rfl, _, _, _, _, hb9⟩; have hK9 := K_nul w9; have hL9 := Aside0.mk (hL8.out.trans (hb9.mono hL8.out.size)); have hb9' := Aside0.mk hb9; clear hb9)
            | (go_at_call 29; refine (parse_fault E s _ (hP.out.below hL6.out) (.inr hp1)).mono ?_; rintro e w7 ⟨k7, kk7, a7, rfl, _, _, _, _, hb7⟩; have hK7 := K_nul w7; have hB8 := (Below.refl w7.heap.size w7).alloc (Nat.le_refl _) (.cells #[.int .i64 0, .bool false, .bool false, .string ⟨#[]⟩, .int .i64 0, .string ⟨#[]⟩, .slice none 0 0, .slice none 0 0] 27); have hL8 := Aside0.mk (hL6.out.trans ((hb7.trans (hB8.mono hb7.size)).mono hL6.out.size)); have hK8 := Aside0.mk (kV.K_below hB8 hK7); have hx8 := Aside0.mk ((hB8.block _ (blk_lt ((hb7.block _ (blk_lt hx6.out)).trans hx6.out))).trans ((hb7.block _ (blk_lt hx6.out)).trans hx6.out)); have hy8 := Aside0.mk (heap_alloc_new w7 (.cells #[.int .i64 0, .bool false, .bool false, .string ⟨#[]⟩, .int .i64 0, .string ⟨#[]⟩, .slice none 0 0, .slice none 0 0] 27)); clear hB8 hK7 hb7)
            | ((with_reducible refine gate_builtin (b := .append) (xs := #[.tmp 138, .tmp 141]) rfl ?_); at_builtin; refine print_append_str (w0 := W4) W4.heap.size rfl (.tmp 138) (.tmp 141) 55 9 5 rfl Tryz.underlying55 Tryz.underlying9 (by kernel_rfl) _ (nat8 L) (s.extract fr s.size) rfl rfl hown hB (by have := hB.size; omega) (by rw [hxs.out]; omega) ?_; intro v1 w6 hown1 hB1 _; have hcv := own_string (P := Tryz.prog) (src := 55) (dst := 9) (w := w6) (e' := 5) (e := 5) (base := W4.heap.size) Tryz.underlying55 Tryz.underlying5 Tryz.underlying9 hown1; rw [hcT.out] at hcv; have hL6 := Aside0.mk (hL5.out.trans (hB1.mono hL5.out.size)); have hx6 := Aside0.mk ((hB1.block _ (blk_lt hk4.out)).trans hk4.out); clear hB1 hown1))
          have hB10 := (Below.refl w9.heap.size w9).alloc (Nat.le_refl _) (.cells #[.int .i64 0, .bool false, .bool false, .string ⟨#[]⟩, .int .i64 0, .string ⟨#[]⟩, .slice none 0 0, .slice none 0 0] 27)
          have hz10 := heap_alloc_new w9 (.cells #[.int .i64 0, .bool false, .bool false, .string ⟨#[]⟩, .int .i64 0, .string ⟨#[]⟩, .slice none 0 0, .slice none 0 0] 27)
          have hx10 := (hB10.block _ (blk_lt ((hb9'.out.block _ (blk_lt hx8.out)).trans hx8.out))).trans ((hb9'.out.block _ (blk_lt hx8.out)).trans hx8.out)
          have hy10 := (hB10.block _ (blk_lt ((hb9'.out.block _ (blk_lt hy8.out)).trans hy8.out))).trans ((hb9'.out.block _ (blk_lt hy8.out)).trans hy8.out)
          have hKA := kV.K_below hB10 (kV.K_below hb9'.out hK8.out)
          have hKB := kV.K_below hB10 hK9
          have hL10 := hL9.out.trans (hB10.mono hL9.out.size)
          generalize w9.alloc (.cells #[.int .i64 0, .bool false, .bool false, .string ⟨#[]⟩, .int .i64 0, .string ⟨#[]⟩, .slice none 0 0, .slice none 0 0] 27) = W10 at *
          go_quiet (fail)
          have hbn := pw_below_drewN (Below.refl W10.heap.size W10) nq
          have hL11 := Aside0.mk (hL10.trans (hbn.mono hL10.size))
          have hx11 := Aside0.mk ((hbn.block _ (blk_lt hx10)).trans hx10)
          have hy11 := (hbn.block _ (blk_lt hy10)).trans hy10
          have hz11 := (hbn.block _ (blk_lt hz10)).trans hz10
          have hKA11 := Aside0.mk (kV.K_below hbn hKA)
          have hKB11 := Aside0.mk (kV.K_below hbn hKB)
          generalize W10.drewN nq = W11 at *
          have hcy11 := cellAll hy11
          have hcz11 := cellAll hz11
          clear hbn hx10 hy10 hz10 hKA hKB hL10 hB10 hy11 hz11
          go_wp2_with (first
            | (go_at_call 29; refine (parse_fault E (s.extract 0 kk) _ (hP.out.below hL12.out) (.inr hU)).mono ?_; rintro e w14 ⟨k14, kk14, a14, rfl, _, _, _, _, hb14⟩; have hL14 := Aside0.mk (hL12.out.trans (hb14.mono hL12.out.size)); clear hb14)
            | (go_at_call 32; refine (cK _).mono ?_; rintro e w13 ⟨rfl, rfl⟩)
            | (go_at_call 22; refine (like_same JV.nul _ _ _ hKA11.out hKB11.out).mono ?_; rintro e w12 ⟨rfl, hb12⟩; have hL12 := Aside0.mk (hL11.out.trans (hb12.mono hL11.out.size)); have hx12 := Aside0.mk ((hb12.block _ (blk_lt hx11.out)).trans hx11.out); clear hb12 hcy11 hcz11))
          go_ret
          exact ⟨rfl, hL14.out.alloc hL14.out.size _⟩
        · have hUs : (s.extract 0 kk).size ≤ 1048576 := by rw [ByteArray.size_extract]; have := hsb3.out; omega
          have hk2' : (x.kind == 2) = true := by rw [hk2]; rfl
          replace hk2 := Aside0.mk hk2
          go_wp2_with (first
            | (go_at_call 29; refine (parse_fault E T _ (hP.out.below hL8.out) (.inr hp2)).mono ?_; rintro e w9 ⟨k9, kk9, a9, rfl, _, _, _, _, hb9⟩; have hK9 := K_nul w9; have hL9 := Aside0.mk (hL8.out.trans (hb9.mono hL8.out.size)); have hb9' := Aside0.mk hb9; clear hb9)
            | (go_at_call 29; refine (parse_fault E s _ (hP.out.below hL6.out) (.inr hp1)).mono ?_; rintro e w7 ⟨k7, kk7, a7, rfl, _, _, _, _, hb7⟩; have hK7 := K_nul w7; have hB8 := (Below.refl w7.heap.size w7).alloc (Nat.le_refl _) (.cells #[.int .i64 0, .bool false, .bool false, .string ⟨#[]⟩, .int .i64 0, .string ⟨#[]⟩, .slice none 0 0, .slice none 0 0] 27); have hL8 := Aside0.mk (hL6.out.trans ((hb7.trans (hB8.mono hb7.size)).mono hL6.out.size)); have hK8 := Aside0.mk (kV.K_below hB8 hK7); have hx8 := Aside0.mk ((hB8.block _ (blk_lt ((hb7.block _ (blk_lt hx6.out)).trans hx6.out))).trans ((hb7.block _ (blk_lt hx6.out)).trans hx6.out)); have hy8 := Aside0.mk (heap_alloc_new w7 (.cells #[.int .i64 0, .bool false, .bool false, .string ⟨#[]⟩, .int .i64 0, .string ⟨#[]⟩, .slice none 0 0, .slice none 0 0] 27)); clear hB8 hK7 hb7)
            | ((with_reducible refine gate_builtin (b := .append) (xs := #[.tmp 138, .tmp 141]) rfl ?_); at_builtin; refine print_append_str (w0 := W4) W4.heap.size rfl (.tmp 138) (.tmp 141) 55 9 5 rfl Tryz.underlying55 Tryz.underlying9 (by kernel_rfl) _ (nat8 L) (s.extract fr s.size) rfl rfl hown hB (by have := hB.size; omega) (by rw [hxs.out]; omega) ?_; intro v1 w6 hown1 hB1 _; have hcv := own_string (P := Tryz.prog) (src := 55) (dst := 9) (w := w6) (e' := 5) (e := 5) (base := W4.heap.size) Tryz.underlying55 Tryz.underlying5 Tryz.underlying9 hown1; rw [hcT.out] at hcv; have hL6 := Aside0.mk (hL5.out.trans (hB1.mono hL5.out.size)); have hx6 := Aside0.mk ((hB1.block _ (blk_lt hk4.out)).trans hk4.out); clear hB1 hown1))
          have hB10 := (Below.refl w9.heap.size w9).alloc (Nat.le_refl _) (.cells #[.int .i64 0, .bool false, .bool false, .string ⟨#[]⟩, .int .i64 0, .string ⟨#[]⟩, .slice none 0 0, .slice none 0 0] 27)
          have hz10 := heap_alloc_new w9 (.cells #[.int .i64 0, .bool false, .bool false, .string ⟨#[]⟩, .int .i64 0, .string ⟨#[]⟩, .slice none 0 0, .slice none 0 0] 27)
          have hx10 := (hB10.block _ (blk_lt ((hb9'.out.block _ (blk_lt hx8.out)).trans hx8.out))).trans ((hb9'.out.block _ (blk_lt hx8.out)).trans hx8.out)
          have hy10 := (hB10.block _ (blk_lt ((hb9'.out.block _ (blk_lt hy8.out)).trans hy8.out))).trans ((hb9'.out.block _ (blk_lt hy8.out)).trans hy8.out)
          have hKA := kV.K_below hB10 (kV.K_below hb9'.out hK8.out)
          have hKB := kV.K_below hB10 hK9
          have hL10 := hL9.out.trans (hB10.mono hL9.out.size)
          generalize w9.alloc (.cells #[.int .i64 0, .bool false, .bool false, .string ⟨#[]⟩, .int .i64 0, .string ⟨#[]⟩, .slice none 0 0, .slice none 0 0] 27) = W10 at *
          go_quiet (fail)
          have hbn := pw_below_drewN (Below.refl W10.heap.size W10) nq
          have hL11 := Aside0.mk (hL10.trans (hbn.mono hL10.size))
          have hx11 := Aside0.mk ((hbn.block _ (blk_lt hx10)).trans hx10)
          have hy11 := (hbn.block _ (blk_lt hy10)).trans hy10
          have hz11 := (hbn.block _ (blk_lt hz10)).trans hz10
          have hKA11 := Aside0.mk (kV.K_below hbn hKA)
          have hKB11 := Aside0.mk (kV.K_below hbn hKB)
          generalize W10.drewN nq = W11 at *
          have hcy11 := cellAll hy11
          have hcz11 := cellAll hz11
          clear hbn hx10 hy10 hz10 hKA hKB hL10 hB10 hy11 hz11
          go_wp2_with (first
            | (go_at_call 29; refine (parse_ok E (s.extract 0 kk) _ hUs (hP.out.below hL12.out) z jz hU).mono ?_; rintro e w14 ⟨A14, c14, B14, d14, rfl, _, hb14⟩; have hL14 := Aside0.mk (hL12.out.trans (hb14.mono hL12.out.size)); have hx14 := (hb14.block _ (blk_lt hx12.out)).trans hx12.out; have hcx14 := cellAll ((heap_alloc_old w14 (.cells #[.int .i64 z.kind, .bool z.truth, .bool z.neg, .string z.digits, .int .i64 z.exp, .string z.text, .slice A14 z.list.length c14, .slice B14 z.fields.length d14] 27) (blk_lt hx14)).trans hx14); clear hx14; clear hb14)
            | (go_at_call 32; refine (cK _).mono ?_; rintro e w13 ⟨rfl, rfl⟩)
            | (go_at_call 22; refine (like_same JV.nul _ _ _ hKA11.out hKB11.out).mono ?_; rintro e w12 ⟨rfl, hb12⟩; have hL12 := Aside0.mk (hL11.out.trans (hb12.mono hL11.out.size)); have hx12 := Aside0.mk ((hb12.block _ (blk_lt hx11.out)).trans hx11.out); clear hb12 hcy11 hcz11))
          go_ret
          exact ⟨rfl, hL14.out.alloc hL14.out.size _⟩
end Go.Proofs.YtmfijfcikecglaaGreatDoor
end
