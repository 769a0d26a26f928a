/- voyagelaw02.JsonTexts: true. -/
import Derived.Test.YtmfijfcikecglaaGreatDoorG20
import Derived.Test.YtmfijfcikecglaaGreatDoorG21
import Derived.Test.YtmfijfcikecglaaGreatDoorG25
import Derived.Test.YtmfijfcikecglaaGreatDoorG24
import Derived.Deep.RegionHeld3
section
set_option linter.unusedVariables false
set_option linter.unusedSimpArgs false
namespace Go.Proofs.YtmfijfcikecglaaGreatDoor
open Go Go.RowKit Go.Proofs.YtmfijfcikecglaaGreatDoorW.PrintWords

/-- What Parse gives is light. -/
theorem parse_wt {s : ByteArray} (hs : s.size ≤ 1048576) {x : JV} {j : Nat} (h : parseTo s = .ok x j) : x.wt ≤ 33554500 ∧ x.ints := by
  unfold parseTo at h
  cases hv : valF s 64 (gapTo s 0) with
  | no k e => rw [hv] at h; cases h
  | ok y k =>
    rw [hv] at h
    simp only at h
    split at h
    · cases h
    · injection h with h1 h2
      subst h1
      have h3 := (valF_wt s hs 64 _ _ _ hv).1
      have h4 := valF_inn s 64 (gapTo s 0) (gapTo_size s 0 (Nat.zero_le _))
      rw [hv] at h4
      have h5 : k ≤ s.size := h4
      have h6 := norm_wt y
      exact ⟨by omega, norm_ints y⟩
theorem like_same (x : JV) (w : World) (cs cs' : List Value) (hK : kV.K w x cs) (hK' : kV.K w x cs') : Calls Tryz.prog 22 #[.agg cs.toArray, .agg cs'.toArray] w fun e w' => e = .returned (.bool true) ∧ Below w.heap.size w w' := by
  refine (like_any x x w cs cs' hK hK').mono ?_
  rintro e w' ⟨b, rfl, h, hb⟩
  rw [h.2 rfl]
  exact ⟨rfl, hb⟩
theorem norm_same (x : JV) (hn : x.norm = x) (w : World) (cs : List Value) (hK : kV.K w x cs) (hF : Facts w) (hwt : x.wt ≤ 4294967296) (hin : x.ints) : Calls Tryz.prog 15 #[.agg cs.toArray] w fun e w' => ∃ A c B d, e = .returned (.agg #[.int .i64 x.kind, .bool x.truth, .bool x.neg, .string x.digits, .int .i64 x.exp, .string x.text, .slice A x.list.length c, .slice B x.fields.length d]) ∧ kV.K w' x [.int .i64 x.kind, .bool x.truth, .bool x.neg, .string x.digits, .int .i64 x.exp, .string x.text, .slice A x.list.length c, .slice B x.fields.length d] ∧ Below w.heap.size w w' := by
  have h := norm_any x w cs hK hF hwt hin
  rw [hn] at h
  refine h.mono ?_
  rintro e w' ⟨cs', rfl, hM, hb⟩
  obtain ⟨l, f, rfl, hl, hf⟩ := kV_openM hM
  obtain ⟨A, c, rfl⟩ := Kd.R_slice hl
  obtain ⟨B, d, rfl⟩ := Kd.R_slice hf
  exact ⟨A, c, B, d, rfl, kV.K_of_M hM, hb⟩
theorem print_same (x : JV) (hn : x.norm = x) (w : World) (cs : List Value) (hK : kV.K w x cs) (hF : Facts w) (hwt : x.wt ≤ 1073741824) (hin : x.ints) : Calls Tryz.prog 12 #[.agg cs.toArray] w fun e w' => e = .returned (.string ⟨x.put.toArray⟩) ∧ Below w.heap.size w w' := by
  have h := print_any x w cs hK hF hwt hin
  unfold JV.print at h
  rw [hn] at h
  exact h
theorem rdepth_same (x : JV) (hn : x.norm = x) (w : World) (cs : List Value) (hK : kV.K w x cs) (hwt : x.wt ≤ 4294967296) (hin : x.ints) : Calls Tryz.prog 24 #[.agg cs.toArray] w fun e w' => e = .returned (.int .i64 x.deep) ∧ Below w.heap.size w w' := by
  have h := rdepth_any x w cs hK hwt (by rw [hn]; exact hwt) hin
  rw [hn] at h
  exact h
theorem parse_ok (E : ErrV) (s : ByteArray) (w : World) (hs : s.size ≤ 1048576) (hP : PEnv E w) (x : JV) (j : Nat) (h : parseTo s = .ok x j) : Calls Tryz.prog 29 #[.string s] w fun e w' => ∃ A c B d, e = .returned (.tuple #[.agg #[.int .i64 x.kind, .bool x.truth, .bool x.neg, .string x.digits, .int .i64 x.exp, .string x.text, .slice A x.list.length c, .slice B x.fields.length d], .nilIface]) ∧ kV.K w' x [.int .i64 x.kind, .bool x.truth, .bool x.neg, .string x.digits, .int .i64 x.exp, .string x.text, .slice A x.list.length c, .slice B x.fields.length d] ∧ Below w.heap.size w w' := by
  have h2 := parse_any E s w hs hP
  rw [h] at h2
  refine h2.mono ?_
  rintro e w' ⟨cs', rfl, hM, hb⟩
  obtain ⟨l, f, rfl, hl, hf⟩ := kV_openM hM
  obtain ⟨A, c, rfl⟩ := Kd.R_slice hl
  obtain ⟨B, d, rfl⟩ := Kd.R_slice hf
  exact ⟨A, c, B, d, rfl, kV.K_of_M hM, hb⟩
/-- A fault of one of the package's errors. -/
theorem parse_fault (E : ErrV) (s : ByteArray) (w : World) (hP : PEnv E w) (h : 1048576 < s.size ∨ ∃ k e, parseTo s = .no k e) : Calls Tryz.prog 29 #[.string s] w fun e w' => ∃ (k kk : Nat) (a : Addr), e = .returned (.tuple #[.agg #[.int .i64 0, .bool false, .bool false, .string ⟨#[]⟩, .int .i64 0, .string ⟨#[]⟩, .slice none 0 0, .slice none 0 0], .iface 84 (.pointer (some ⟨kk, 0, none⟩))]) ∧ IsFault (.iface 84 (.pointer (some ⟨kk, 0, none⟩))) k (ev a) w' ∧ a ∈ [E.due, E.long, E.deep, E.twice, E.text, E.number, E.exponent] ∧ k ≤ s.size ∧ (1048576 < s.size → k = 0 ∧ a = E.long) ∧ Below w.heap.size w w' := by
  by_cases hs : s.size ≤ 1048576
  · obtain ⟨k, pe, hk⟩ := h.resolve_left (by omega)
    have h2 := parse_any E s w hs hP
    rw [hk] at h2
    refine h2.mono ?_
    rintro e w' ⟨v, rfl, hF, hb⟩
    have hF2 := hF
    obtain ⟨kk, rfl, _⟩ := hF2
    refine ⟨k, kk, E.at_ pe, rfl, hF, ?_, parse_at_in hk, fun h9 => absurd h9 (by omega), hb⟩
    cases pe <;> simp [ErrV.at_]
  · refine (parse_long E s w (by omega) hP).mono ?_
    rintro e w' ⟨v, rfl, hF, hb⟩
    have hF2 := hF
    obtain ⟨kk, rfl, _⟩ := hF2
    exact ⟨0, kk, E.long, rfl, hF, by simp, Nat.zero_le _, fun _ => ⟨rfl, rfl⟩, hb⟩

set_option maxRecDepth 100000 in
set_option maxHeartbeats 4000000 in
theorem texts_great (s : ByteArray) (w : World) (hs : 134217728 ≤ s.size) : Calls Tryz.prog 7 #[.string s] w fun e w' => e = .returned (.bool true) ∧ Below w.heap.size w w' := by
  have h1 : (134217728 : Int) ≤ (s.size : Int) := by omega
  go_enter Tryz.func7, Tryz.ntmps7
  go_wp2_with fail
  go_ret
  exact ⟨rfl, Below.refl _ _⟩

set_option maxRecDepth 100000 in
set_option maxHeartbeats 4000000 in
theorem texts_fault (E : ErrV) (s : ByteArray) (w : World) (hs : s.size < 134217728) (hP : PEnv E w) (hE : ErrB E w) (h : 1048576 < s.size ∨ ∃ k e, parseTo s = .no k e) : Calls Tryz.prog 7 #[.string s] w fun e w' => e = .returned (.bool true) ∧ Below w.heap.size w w' := by
  have h1 : ¬ (134217728 : Int) ≤ (s.size : Int) := by omega
  have cA := Aside0.mk (awake_any E w hP)
  have cP := fun (W : World) (hb : Below w.heap.size w W) => parse_fault E s W (hP.below hb) h
  replace hP := Aside0.mk hP
  replace hE := Aside0.mk hE
  clear h
  go_enter Tryz.func7, Tryz.ntmps7
  go_wp2_with (first
    | (go_at_call 31; refine (code_any E a w4 hIn (hP.out.below hL4.out).errs (hE.out.below hL4.out)).mono ?_; rintro e w5 ⟨kc, rfl, hkc, hb5⟩; have hL5 := Aside0.mk (hL4.out.trans (hb5.mono hL4.out.size)))
    | (go_at_call 30; refine (place_any k a _ _ hF.out (hP.out.below hL3.out).et).mono ?_; rintro e w4 ⟨rfl, hb4⟩; have hL4 := Aside0.mk (hL3.out.trans (hb4.mono hL3.out.size)))
    | (go_at_call 29; refine (cP w1 hL1.out).mono ?_; clear cP; rintro e w2 ⟨k, kk, a, rfl, hF2, hIn, hk, _, hb2⟩; have hB2 := (Below.refl w2.heap.size w2).alloc (Nat.le_refl _) (.cells #[.int .i64 0, .bool false, .bool false, .string ⟨#[]⟩, .int .i64 0, .string ⟨#[]⟩, .slice none 0 0, .slice none 0 0] 27); have hL3 := Aside0.mk (hL1.out.trans ((hb2.trans (hB2.mono hb2.size)).mono hL1.out.size)); have hF := Aside0.mk (hF2.below hB2); have hk2 : (k : Int) ≤ (s.size : Int) := (by omega); have hk3 : (0 : Int) ≤ (k : Int) := (by omega); clear hB2 hF2)
    | (go_at_call 10; refine cA.out.mono ?_; clear cA; rintro e w1 ⟨rfl, hb1⟩; have hL1 := Aside0.mk hb1; clear hb1 h1))
  go_ret
  exact ⟨rfl, hL5.out⟩

set_option maxRecDepth 100000 in
set_option maxHeartbeats 8000000 in
theorem texts_good (E : ErrV) (s : ByteArray) (w : World) (hs : s.size ≤ 1048576) (hP : PEnv E w) (x : JV) (j : Nat) (h : parseTo s = .ok x j) (hbig : x.put.length ≤ 1048576) : Calls Tryz.prog 7 #[.string s] w fun e w' => e = .returned (.bool true) ∧ Below w.heap.size w w' := by
  have h1 : ¬ (134217728 : Int) ≤ (s.size : Int) := by omega
  obtain ⟨hx, hd⟩ := parse_sound h
  have hn := norm_of_isN x hx
  obtain ⟨hwt, hin⟩ := parse_wt hs h
  obtain ⟨jt, hjt⟩ := parse_told x hx hd
  have cA := Aside0.mk (awake_any E w hP)
  have cP := fun (W : World) (hb : Below w.heap.size w W) => parse_ok E s W hs (hP.below hb) x j h
  have cQ := fun (W : World) (hb : Below w.heap.size w W) => parse_ok E ⟨x.put.toArray⟩ W (by rw [size_mk]; exact hbig) (hP.below hb) x jt hjt
  have cR := fun (W : World) (cs : List Value) (hK : kV.K W x cs) (hb : Below w.heap.size w W) => print_same x hn W cs hK (hP.below hb).facts (by omega) hin
  have cN := fun (W : World) (cs : List Value) (hK : kV.K W x cs) (hb : Below w.heap.size w W) => norm_same x hn W cs hK (hP.below hb).facts (by omega) hin
  have cD := fun (W : World) (cs : List Value) (hK : kV.K W x cs) => rdepth_same x hn W cs hK (by omega) hin
  have hbig2 : ¬ (1048576 : Int) < ((⟨x.put.toArray⟩ : ByteArray).size : Int) := by rw [size_mk]; omega
  have hd2 : ¬ (64 : Int) < (x.deep : Int) := by omega
  have heq := fun W => eq_err E.long W
  generalize (⟨x.put.toArray⟩ : ByteArray) = t at *
  replace hP := Aside0.mk hP
  clear h hjt hx hn
  go_enter Tryz.func7, Tryz.ntmps7
  go_wp2_with (first
    | (go_at_call 29; refine (cQ w4 hL4.out).mono ?_; clear cQ; rintro e w5 ⟨A5, c5, B5, d5, rfl, hK5, hb5⟩; skip; have hL5 := Aside0.mk (hL4.out.trans (hb5.mono hL4.out.size)); have hb4' := Aside0.mk hb5; clear hc4)
    | (go_at_call 12; refine (cR _ _ hK3.out hL3.out).mono ?_; clear cR; rintro e w4 ⟨rfl, hb4⟩; have hL4 := Aside0.mk (hL3.out.trans (hb4.mono hL3.out.size)); have hbx4 := Aside0.mk ((hb4.block _ (blk_lt hbx.out)).trans hbx.out); have hc4 := cellAll hbx4.out; have hK4 := Aside0.mk (kV.K_below hb4 hK3.out); clear hc3)
    | (go_at_call 29; refine (cP w1 hL1.out).mono ?_; clear cP; rintro e w2 ⟨A1, c1, B1, d1, rfl, hK2, hb2⟩; have hB2 := (Below.refl w2.heap.size w2).alloc (Nat.le_refl _) (.cells #[.int .i64 x.kind, .bool x.truth, .bool x.neg, .string x.digits, .int .i64 x.exp, .string x.text, .slice A1 x.list.length c1, .slice B1 x.fields.length d1] 27); have hL3 := Aside0.mk (hL1.out.trans ((hb2.trans (hB2.mono hb2.size)).mono hL1.out.size)); have hK3 := Aside0.mk (kV.K_below hB2 hK2); have hbx := Aside0.mk (heap_alloc_new w2 (.cells #[.int .i64 x.kind, .bool x.truth, .bool x.neg, .string x.digits, .int .i64 x.exp, .string x.text, .slice A1 x.list.length c1, .slice B1 x.fields.length d1] 27)); have hc3 := cellAll hbx.out; clear hB2 hK2)
    | (go_at_call 10; refine cA.out.mono ?_; clear cA; rintro e w1 ⟨rfl, hb1⟩; have hL1 := Aside0.mk hb1; clear hb1 h1))
  have hB6 := (Below.refl w5.heap.size w5).alloc (Nat.le_refl _) (.cells #[.int .i64 x.kind, .bool x.truth, .bool x.neg, .string x.digits, .int .i64 x.exp, .string x.text, .slice A5 x.list.length c5, .slice B5 x.fields.length d5] 27)
  have hbx6 := (hB6.block _ (blk_lt ((hb4'.out.block _ (blk_lt hbx4.out)).trans hbx4.out))).trans ((hb4'.out.block _ (blk_lt hbx4.out)).trans hbx4.out)
  have hby6 := heap_alloc_new w5 (.cells #[.int .i64 x.kind, .bool x.truth, .bool x.neg, .string x.digits, .int .i64 x.exp, .string x.text, .slice A5 x.list.length c5, .slice B5 x.fields.length d5] 27)
  have hK6 := kV.K_below hB6 (kV.K_below hb4'.out hK4.out)
  have hKy6 := kV.K_below hB6 hK5
  have hL6 := hL5.out.trans (hB6.mono hL5.out.size)
  generalize hW6 : w5.alloc (.cells #[.int .i64 x.kind, .bool x.truth, .bool x.neg, .string x.digits, .int .i64 x.exp, .string x.text, .slice A5 x.list.length c5, .slice B5 x.fields.length d5] 27) = W6 at *
  have hSof : ∀ W', Below W6.heap.size W6 W' → W'.cell? ⟨w2.heap.size, 0, none⟩ = some (.int .i64 x.kind) ∧ W'.cell? ⟨w2.heap.size, 1, none⟩ = some (.bool x.truth) ∧ W'.cell? ⟨w2.heap.size, 2, none⟩ = some (.bool x.neg) ∧ W'.cell? ⟨w2.heap.size, 3, none⟩ = some (.string x.digits) ∧ W'.cell? ⟨w2.heap.size, 4, none⟩ = some (.int .i64 x.exp) ∧ W'.cell? ⟨w2.heap.size, 5, none⟩ = some (.string x.text) ∧ W'.cell? ⟨w2.heap.size, 6, none⟩ = some (.slice A1 x.list.length c1) ∧ W'.cell? ⟨w2.heap.size, 7, none⟩ = some (.slice B1 x.fields.length d1) ∧ W'.cell? ⟨w5.heap.size, 0, none⟩ = some (.int .i64 x.kind) ∧ W'.cell? ⟨w5.heap.size, 1, none⟩ = some (.bool x.truth) ∧ W'.cell? ⟨w5.heap.size, 2, none⟩ = some (.bool x.neg) ∧ W'.cell? ⟨w5.heap.size, 3, none⟩ = some (.string x.digits) ∧ W'.cell? ⟨w5.heap.size, 4, none⟩ = some (.int .i64 x.exp) ∧ W'.cell? ⟨w5.heap.size, 5, none⟩ = some (.string x.text) ∧ W'.cell? ⟨w5.heap.size, 6, none⟩ = some (.slice A5 x.list.length c5) ∧ W'.cell? ⟨w5.heap.size, 7, none⟩ = some (.slice B5 x.fields.length d5) := fun W' hbW => by
    have k1 := cellAll ((hbW.block _ (blk_lt hbx6)).trans hbx6)
    have k2 := cellAll ((hbW.block _ (blk_lt hby6)).trans hby6)
    exact ⟨k1 0, k1 1, k1 2, k1 3, k1 4, k1 5, k1 6, k1 7, k2 0, k2 1, k2 2, k2 3, k2 4, k2 5, k2 6, k2 7⟩
  have hS6 := hSof W6 (Below.refl _ _)
  have hb60 := (Below.refl W6.heap.size W6).drew
  have hS60 := hSof _ hb60
  replace hL6 := Aside0.mk hL6
  replace hK6 := Aside0.mk hK6
  replace hKy6 := Aside0.mk hKy6
  replace hbx6 := Aside0.mk hbx6
  replace hby6 := Aside0.mk hby6
  go_region_held3 (fun W' => W'.cell? ⟨w2.heap.size, 0, none⟩ = some (.int .i64 x.kind) ∧ W'.cell? ⟨w2.heap.size, 1, none⟩ = some (.bool x.truth) ∧ W'.cell? ⟨w2.heap.size, 2, none⟩ = some (.bool x.neg) ∧ W'.cell? ⟨w2.heap.size, 3, none⟩ = some (.string x.digits) ∧ W'.cell? ⟨w2.heap.size, 4, none⟩ = some (.int .i64 x.exp) ∧ W'.cell? ⟨w2.heap.size, 5, none⟩ = some (.string x.text) ∧ W'.cell? ⟨w2.heap.size, 6, none⟩ = some (.slice A1 x.list.length c1) ∧ W'.cell? ⟨w2.heap.size, 7, none⟩ = some (.slice B1 x.fields.length d1) ∧ W'.cell? ⟨w5.heap.size, 0, none⟩ = some (.int .i64 x.kind) ∧ W'.cell? ⟨w5.heap.size, 1, none⟩ = some (.bool x.truth) ∧ W'.cell? ⟨w5.heap.size, 2, none⟩ = some (.bool x.neg) ∧ W'.cell? ⟨w5.heap.size, 3, none⟩ = some (.string x.digits) ∧ W'.cell? ⟨w5.heap.size, 4, none⟩ = some (.int .i64 x.exp) ∧ W'.cell? ⟨w5.heap.size, 5, none⟩ = some (.string x.text) ∧ W'.cell? ⟨w5.heap.size, 6, none⟩ = some (.slice A5 x.list.length c5) ∧ W'.cell? ⟨w5.heap.size, 7, none⟩ = some (.slice B5 x.fields.length d5)) (first | exact hS6 | exact hS60 | exact hS7 | exact hS8 | (simp [*]; done))
    (first
      | (go_at_call 22; refine (like_same x _ _ _ hKn (kV.K_below hb7 hK6.out)).mono ?_; rintro e w8 ⟨rfl, hb8'⟩; have hb8 := hb7.trans (hb8'.mono hb7.size); have hS8 := hSof _ hb8)
      | (go_at_call 15; refine (cN _ _ (kV.K_below hb60 hK6.out) (hL6.out.trans (hb60.mono hL6.out.size))).mono ?_; rintro e w7 ⟨An, cn, Bn, dn, rfl, hKn, hb7'⟩; have hb7 := hb60.trans (hb7'.mono hb60.size); have hS7 := hSof _ hb7))
  all_goals (have hcx8 := cellAll ((hb8.block _ (blk_lt hbx6.out)).trans hbx6.out); have hcy8 := cellAll ((hb8.block _ (blk_lt hby6.out)).trans hby6.out); replace hb8 := Aside0.mk hb8; clear hS6 hS60 hS7 hS8 hSof hb8' hb7' hb7 hKn hb60)
  all_goals (go_wp2_with (first
    | (go_at_call 24; refine (cD w9 _ (kV.K_below hb9.out hK6.out)).mono ?_; rintro e w10 ⟨rfl, hb10'⟩; have hb10 := Aside0.mk (hb9.out.trans (hb10'.mono hb9.out.size)); clear hb10')
    | (go_at_call 22; refine (like_same x _ _ _ (kV.K_below hb8.out hKy6.out) (kV.K_below hb8.out hK6.out)).mono ?_; rintro e w9 ⟨rfl, hb9'⟩; have hb9 := Aside0.mk (hb8.out.trans (hb9'.mono hb8.out.size)); have hcx9 := cellAll ((hb9.out.block _ (blk_lt hbx6.out)).trans hbx6.out); have hcy9 := cellAll ((hb9.out.block _ (blk_lt hby6.out)).trans hby6.out); clear hb9' hcx8 hcy8)))
  all_goals go_ret
  all_goals (exact ⟨rfl, hL6.out.trans (hb10.out.mono hL6.out.size)⟩)

set_option maxRecDepth 100000 in
set_option maxHeartbeats 8000000 in
theorem texts_big (E : ErrV) (s : ByteArray) (w : World) (hs : s.size ≤ 1048576) (hP : PEnv E w) (x : JV) (j : Nat) (h : parseTo s = .ok x j) (hbig : 1048576 < x.put.length) : Calls Tryz.prog 7 #[.string s] w fun e w' => e = .returned (.bool true) ∧ Below w.heap.size w w' := by
  have h1 : ¬ (134217728 : Int) ≤ (s.size : Int) := by omega
  obtain ⟨hx, hd⟩ := parse_sound h
  have hn := norm_of_isN x hx
  obtain ⟨hwt, hin⟩ := parse_wt hs h
  obtain ⟨jt, hjt⟩ := parse_told x hx hd
  have cA := Aside0.mk (awake_any E w hP)
  have cP := fun (W : World) (hb : Below w.heap.size w W) => parse_ok E s W hs (hP.below hb) x j h
  have cQ := fun (W : World) (hb : Below w.heap.size w W) => parse_fault E ⟨x.put.toArray⟩ W (hP.below hb) (.inl (by rw [size_mk]; exact hbig))
  have cR := fun (W : World) (cs : List Value) (hK : kV.K W x cs) (hb : Below w.heap.size w W) => print_same x hn W cs hK (hP.below hb).facts (by omega) hin
  have cN := fun (W : World) (cs : List Value) (hK : kV.K W x cs) (hb : Below w.heap.size w W) => norm_same x hn W cs hK (hP.below hb).facts (by omega) hin
  have cD := fun (W : World) (cs : List Value) (hK : kV.K W x cs) => rdepth_same x hn W cs hK (by omega) hin
  have hbig2 : (1048576 : Int) < ((⟨x.put.toArray⟩ : ByteArray).size : Int) := by rw [size_mk]; omega
  have hd2 : ¬ (64 : Int) < (x.deep : Int) := by omega
  have heq := fun W => eq_err E.long W
  generalize (⟨x.put.toArray⟩ : ByteArray) = t at *
  replace hP := Aside0.mk hP
  clear h hjt hx hn
  go_enter Tryz.func7, Tryz.ntmps7
  go_wp2_with (first
    | (go_at_call 29; refine (cQ w4 hL4.out).mono ?_; clear cQ; rintro e w5 ⟨k5, kk5, a5, rfl, hF5, hIn5, hk5, hlong, hb5⟩; obtain ⟨rfl, rfl⟩ := hlong (by omega); have hM5 : kV.M w5 w5.heap.size (fun _ => True) JV.nul (JV.nul.cells (.slice none 0 0) (.slice none 0 0)) := kV_mkM (R_nilV _ _ _) (R_nilF _ _ _); have hK5 := kV.K_of_M hM5; have hF6 := Aside0.mk (hF5.below ((Below.refl w5.heap.size w5).alloc (Nat.le_refl _) (.cells #[.int .i64 0, .bool false, .bool false, .string ⟨#[]⟩, .int .i64 0, .string ⟨#[]⟩, .slice none 0 0, .slice none 0 0] 27))); have hL5 := Aside0.mk (hL4.out.trans (hb5.mono hL4.out.size)); have hb4' := Aside0.mk hb5; clear hc4)
    | (go_at_call 12; refine (cR _ _ hK3.out hL3.out).mono ?_; clear cR; rintro e w4 ⟨rfl, hb4⟩; have hL4 := Aside0.mk (hL3.out.trans (hb4.mono hL3.out.size)); have hbx4 := Aside0.mk ((hb4.block _ (blk_lt hbx.out)).trans hbx.out); have hc4 := cellAll hbx4.out; have hK4 := Aside0.mk (kV.K_below hb4 hK3.out); clear hc3)
    | (go_at_call 29; refine (cP w1 hL1.out).mono ?_; clear cP; rintro e w2 ⟨A1, c1, B1, d1, rfl, hK2, hb2⟩; have hB2 := (Below.refl w2.heap.size w2).alloc (Nat.le_refl _) (.cells #[.int .i64 x.kind, .bool x.truth, .bool x.neg, .string x.digits, .int .i64 x.exp, .string x.text, .slice A1 x.list.length c1, .slice B1 x.fields.length d1] 27); have hL3 := Aside0.mk (hL1.out.trans ((hb2.trans (hB2.mono hb2.size)).mono hL1.out.size)); have hK3 := Aside0.mk (kV.K_below hB2 hK2); have hbx := Aside0.mk (heap_alloc_new w2 (.cells #[.int .i64 x.kind, .bool x.truth, .bool x.neg, .string x.digits, .int .i64 x.exp, .string x.text, .slice A1 x.list.length c1, .slice B1 x.fields.length d1] 27)); have hc3 := cellAll hbx.out; clear hB2 hK2)
    | (go_at_call 10; refine cA.out.mono ?_; clear cA; rintro e w1 ⟨rfl, hb1⟩; have hL1 := Aside0.mk hb1; clear hb1 h1))
  have hB6 := (Below.refl w5.heap.size w5).alloc (Nat.le_refl _) (.cells #[.int .i64 0, .bool false, .bool false, .string ⟨#[]⟩, .int .i64 0, .string ⟨#[]⟩, .slice none 0 0, .slice none 0 0] 27)
  have hbx6 := (hB6.block _ (blk_lt ((hb4'.out.block _ (blk_lt hbx4.out)).trans hbx4.out))).trans ((hb4'.out.block _ (blk_lt hbx4.out)).trans hbx4.out)
  have hby6 := heap_alloc_new w5 (.cells #[.int .i64 0, .bool false, .bool false, .string ⟨#[]⟩, .int .i64 0, .string ⟨#[]⟩, .slice none 0 0, .slice none 0 0] 27)
  have hK6 := kV.K_below hB6 (kV.K_below hb4'.out hK4.out)
  have hKy6 := kV.K_below hB6 hK5
  have hL6 := hL5.out.trans (hB6.mono hL5.out.size)
  generalize hW6 : w5.alloc (.cells #[.int .i64 0, .bool false, .bool false, .string ⟨#[]⟩, .int .i64 0, .string ⟨#[]⟩, .slice none 0 0, .slice none 0 0] 27) = W6 at *
  have hSof : ∀ W', Below W6.heap.size W6 W' → W'.cell? ⟨w2.heap.size, 0, none⟩ = some (.int .i64 x.kind) ∧ W'.cell? ⟨w2.heap.size, 1, none⟩ = some (.bool x.truth) ∧ W'.cell? ⟨w2.heap.size, 2, none⟩ = some (.bool x.neg) ∧ W'.cell? ⟨w2.heap.size, 3, none⟩ = some (.string x.digits) ∧ W'.cell? ⟨w2.heap.size, 4, none⟩ = some (.int .i64 x.exp) ∧ W'.cell? ⟨w2.heap.size, 5, none⟩ = some (.string x.text) ∧ W'.cell? ⟨w2.heap.size, 6, none⟩ = some (.slice A1 x.list.length c1) ∧ W'.cell? ⟨w2.heap.size, 7, none⟩ = some (.slice B1 x.fields.length d1) ∧ W'.cell? ⟨w5.heap.size, 0, none⟩ = some (.int .i64 0) ∧ W'.cell? ⟨w5.heap.size, 1, none⟩ = some (.bool false) ∧ W'.cell? ⟨w5.heap.size, 2, none⟩ = some (.bool false) ∧ W'.cell? ⟨w5.heap.size, 3, none⟩ = some (.string ⟨#[]⟩) ∧ W'.cell? ⟨w5.heap.size, 4, none⟩ = some (.int .i64 0) ∧ W'.cell? ⟨w5.heap.size, 5, none⟩ = some (.string ⟨#[]⟩) ∧ W'.cell? ⟨w5.heap.size, 6, none⟩ = some (.slice none 0 0) ∧ W'.cell? ⟨w5.heap.size, 7, none⟩ = some (.slice none 0 0) := fun W' hbW => by
    have k1 := cellAll ((hbW.block _ (blk_lt hbx6)).trans hbx6)
    have k2 := cellAll ((hbW.block _ (blk_lt hby6)).trans hby6)
    exact ⟨k1 0, k1 1, k1 2, k1 3, k1 4, k1 5, k1 6, k1 7, k2 0, k2 1, k2 2, k2 3, k2 4, k2 5, k2 6, k2 7⟩
  have hS6 := hSof W6 (Below.refl _ _)
  have hb60 := (Below.refl W6.heap.size W6).drew
  have hS60 := hSof _ hb60
  replace hL6 := Aside0.mk hL6
  replace hK6 := Aside0.mk hK6
  replace hKy6 := Aside0.mk hKy6
  replace hbx6 := Aside0.mk hbx6
  replace hby6 := Aside0.mk hby6
  go_region_held3 (fun W' => W'.cell? ⟨w2.heap.size, 0, none⟩ = some (.int .i64 x.kind) ∧ W'.cell? ⟨w2.heap.size, 1, none⟩ = some (.bool x.truth) ∧ W'.cell? ⟨w2.heap.size, 2, none⟩ = some (.bool x.neg) ∧ W'.cell? ⟨w2.heap.size, 3, none⟩ = some (.string x.digits) ∧ W'.cell? ⟨w2.heap.size, 4, none⟩ = some (.int .i64 x.exp) ∧ W'.cell? ⟨w2.heap.size, 5, none⟩ = some (.string x.text) ∧ W'.cell? ⟨w2.heap.size, 6, none⟩ = some (.slice A1 x.list.length c1) ∧ W'.cell? ⟨w2.heap.size, 7, none⟩ = some (.slice B1 x.fields.length d1) ∧ W'.cell? ⟨w5.heap.size, 0, none⟩ = some (.int .i64 0) ∧ W'.cell? ⟨w5.heap.size, 1, none⟩ = some (.bool false) ∧ W'.cell? ⟨w5.heap.size, 2, none⟩ = some (.bool false) ∧ W'.cell? ⟨w5.heap.size, 3, none⟩ = some (.string ⟨#[]⟩) ∧ W'.cell? ⟨w5.heap.size, 4, none⟩ = some (.int .i64 0) ∧ W'.cell? ⟨w5.heap.size, 5, none⟩ = some (.string ⟨#[]⟩) ∧ W'.cell? ⟨w5.heap.size, 6, none⟩ = some (.slice none 0 0) ∧ W'.cell? ⟨w5.heap.size, 7, none⟩ = some (.slice none 0 0)) (first | exact hS6 | exact hS60 | exact hS7 | exact hS8 | (simp [*]; done))
    (first
      | (go_at_call 22; refine (like_same x _ _ _ hKn (kV.K_below hb7 hK6.out)).mono ?_; rintro e w8 ⟨rfl, hb8'⟩; have hb8 := hb7.trans (hb8'.mono hb7.size); have hS8 := hSof _ hb8)
      | (go_at_call 15; refine (cN _ _ (kV.K_below hb60 hK6.out) (hL6.out.trans (hb60.mono hL6.out.size))).mono ?_; rintro e w7 ⟨An, cn, Bn, dn, rfl, hKn, hb7'⟩; have hb7 := hb60.trans (hb7'.mono hb60.size); have hS7 := hSof _ hb7))
  all_goals (have hcx8 := cellAll ((hb8.block _ (blk_lt hbx6.out)).trans hbx6.out); have hcy8 := cellAll ((hb8.block _ (blk_lt hby6.out)).trans hby6.out); replace hb8 := Aside0.mk hb8; clear hS6 hS60 hS7 hS8 hSof hb8' hb7' hb7 hKn hb60)
  all_goals (go_wp2_with (first
    | (go_at_call 30; refine (place_any 0 E.long _ _ (hF6.out.below hb10.out) (hP.out.below (hL6.out.trans (hb10.out.mono hL6.out.size))).et).mono ?_; rintro e w11 ⟨rfl, hb11'⟩; have hb11 := Aside0.mk (hb10.out.trans (hb11'.mono hb10.out.size)); have hlc := (hP.out.below (hL6.out.trans (hb11.out.mono hL6.out.size))).errs.long_cell; clear hb11')
    | (go_at_call 24; refine (cD w9 _ (kV.K_below hb9.out hK6.out)).mono ?_; rintro e w10 ⟨rfl, hb10'⟩; have hb10 := Aside0.mk (hb9.out.trans (hb10'.mono hb9.out.size)); clear hb10')
    | (go_at_call 22; refine (like_any JV.nul x _ _ _ (kV.K_below hb8.out hKy6.out) (kV.K_below hb8.out hK6.out)).mono ?_; rintro e w9 ⟨bb, rfl, hiff, hb9'⟩; have hb9 := Aside0.mk (hb8.out.trans (hb9'.mono hb8.out.size)); have hcx9 := cellAll ((hb9.out.block _ (blk_lt hbx6.out)).trans hbx6.out); have hcy9 := cellAll ((hb9.out.block _ (blk_lt hby6.out)).trans hby6.out); clear hb9' hcx8 hcy8)))
  all_goals go_ret
  all_goals (exact ⟨rfl, hL6.out.trans (hb11.out.mono hL6.out.size)⟩)

/-- **voyagelaw02.JsonTexts.** -/
theorem jsonTexts_any (E : ErrV) (s : ByteArray) (w : World) (hP : PEnv E w) (hE : ErrB E w) : Calls Tryz.prog 7 #[.string s] w fun e w' => e = .returned (.bool true) ∧ Below w.heap.size w w' := by
  by_cases h : 134217728 ≤ s.size
  · exact texts_great s w h
  by_cases hs : s.size ≤ 1048576
  · cases hp : parseTo s with
    | no k e => exact texts_fault E s w (by omega) hP hE (.inr ⟨k, e, hp⟩)
    | ok x j =>
      by_cases hb : x.put.length ≤ 1048576
      · exact texts_good E s w hs hP x j hp hb
      · exact texts_big E s w hs hP x j hp (by omega)
  · exact texts_fault E s w (by omega) hP hE (.inl (by omega))
end Go.Proofs.YtmfijfcikecglaaGreatDoor
end
