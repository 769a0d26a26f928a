/- (*voyageref02.Lent).Kept: what is lent is told as it was, and so is what lies behind its lists. Lists that are lent: what stays, two marks appended, a list without its marks. What is lent, under way: the block of a Lent, its two rows of rows, and what stays. (*voyageref02.Lent).marked. -/
import Derived.Test.YtmfijfcikecglaaGreatDoorS21
import Derived.Test.YtmfijfcikecglaaGreatDoorS2
import Derived.Test.YtmfijfcikecglaaGreatDoorS25
import Derived.Deep.RegionHeld3
section
set_option linter.unusedVariables false
set_option linter.unusedSimpArgs false
namespace Go.Proofs.YtmfijfcikecglaaGreatDoor
open Go Go.RowKit Go.Proofs.YtmfijfcikecglaaGreatDoorW.PrintWords

def mk77 : JV := .mk 77 false false ⟨#[]⟩ 0 ⟨#[]⟩ [] []
def mk78 : JV := .mk 78 false false ⟨#[]⟩ 0 ⟨#[]⟩ [] []
def fm1 : JF := .mk ⟨#[35]⟩ JV.nul
def fm2 : JF := .mk ⟨#[35, 35]⟩ JV.nul
/-- A list with the marks behind it. -/
def MkL (l : List JV) : Prop := ∃ l0, l = l0 ++ [mk77, mk78]
def MkF (l : List JF) : Prop := ∃ l0, l = l0 ++ [fm1, fm2]
/-- Lists of values; lists of fields. -/
def kLL : Kd (List JV) := Kd.slice 27 kV
def kFF : Kd (List JF) := Kd.slice 68 kF
/-- A lent value in memory. -/
structure LentAt (W : World) (tb : Nat) (x : JV) (A B A2 B2 LA FA : Option Addr) (c d c2 d2 lc fc : Nat) (ls : List (List JV)) (fs : List (List JF)) : Prop where
  blk : W.heap[tb]? = some (.cells #[.int .i64 x.kind, .bool x.truth, .bool x.neg, .string x.digits, .int .i64 x.exp, .string x.text, .slice A x.list.length c, .slice B x.fields.length d, .int .i64 x.kind, .bool x.truth, .bool x.neg, .string x.digits, .int .i64 x.exp, .string x.text, .slice A2 x.list.length c2, .slice B2 x.fields.length d2, .slice LA ls.length lc, .slice FA fs.length fc] 36 (0, 0))
  kv : kV.K W x [.int .i64 x.kind, .bool x.truth, .bool x.neg, .string x.digits, .int .i64 x.exp, .string x.text, .slice A x.list.length c, .slice B x.fields.length d]
  kw : kV.K W x [.int .i64 x.kind, .bool x.truth, .bool x.neg, .string x.digits, .int .i64 x.exp, .string x.text, .slice A2 x.list.length c2, .slice B2 x.fields.length d2]
  kl : kLL.C W LA ls.length ls
  kf : kFF.C W FA fs.length fs
  ml : ∀ l ∈ ls, MkL l ∧ l.length ≤ 140737488355328
  mf : ∀ l ∈ fs, MkF l ∧ l.length ≤ 140737488355328
  sl : ls.length ≤ 140737488355328
  sf : fs.length ≤ 140737488355328
theorem LentAt.below {W W' : World} {tb : Nat} {x : JV} {A B A2 B2 LA FA : Option Addr} {c d c2 d2 lc fc : Nat} {ls : List (List JV)} {fs : List (List JF)} (h : LentAt W tb x A B A2 B2 LA FA c d c2 d2 lc fc ls fs) (hb : Below W.heap.size W W') : LentAt W' tb x A B A2 B2 LA FA c d c2 d2 lc fc ls fs :=
  ⟨(hb.block _ (blk_lt h.blk)).trans h.blk, kV.K_below hb h.kv, kV.K_below hb h.kw, Kd.C_below h.kl hb, Kd.C_below h.kf hb, h.ml, h.mf, h.sl, h.sf⟩
/-- The marks behind the j-th list. -/
theorem marks_V {W : World} {LA : Option Addr} {n : Nat} {ls : List (List JV)} (h : kLL.C W LA n ls) (hm : ∀ l ∈ ls, MkL l ∧ l.length ≤ 140737488355328) (j : Nat) (hj : j < n) : ∃ ad a m c, LA = some ad ∧ m ≤ 140737488355328 ∧ W.cell? (ad.add j) = some (.slice (some a) (m + 2) c) ∧ W.cell? (a.add (m * 8)) = some (.int .i64 77) ∧ W.cell? (a.add ((m + 1) * 8)) = some (.int .i64 78) := by
  obtain ⟨ad, cc, e, _, hK, hc0⟩ := Kd.C_get h [] (j : Int) (by omega) (by omega)
  rw [Int.toNat_natCast] at hK hc0
  have hl : j < ls.length := by rw [h.1]; exact hj
  have hg : ls.getD j [] = ls[j] := by rw [List.getD_eq_getElem?_getD, List.getElem?_eq_getElem hl]; rfl
  rw [hg] at hK
  obtain ⟨⟨l0, hl0⟩, hle⟩ := hm ls[j] (List.getElem_mem hl)
  obtain ⟨A, c, rfl, hlc, hC⟩ := hK
  rw [hl0] at hC hle
  have hlen : (l0 ++ [mk77, mk78]).length = l0.length + 2 := by simp
  rw [hlen] at hC hle
  obtain ⟨a1, x1, _, _, _, _, rfl, hx1, hcs1, _⟩ := at_V hC l0.length (by omega)
  obtain ⟨a2, x2, _, _, _, _, ea, hx2, hcs2, _⟩ := at_V hC (l0.length + 1) (by omega)
  obtain rfl := Option.some.inj ea
  have e1 : x1 = mk77 := by rw [List.getElem?_append_right (by omega), Nat.sub_self] at hx1; exact (Option.some.inj hx1).symm
  have e2 : x2 = mk78 := by rw [List.getElem?_append_right (by omega), Nat.add_sub_cancel_left] at hx2; exact (Option.some.inj hx2).symm
  subst e1 e2
  have h0 := hc0 0 _ rfl
  rw [hl0, hlen] at h0
  refine ⟨ad, a1, l0.length, c, e, by omega, ?_, hcs1.1, hcs2.1⟩
  have e9 : j * kLL.sz + 0 = j := by show j * 1 + 0 = j; omega
  rw [e9] at h0
  exact h0
theorem marks_F {W : World} {LA : Option Addr} {n : Nat} {ls : List (List JF)} (h : kFF.C W LA n ls) (hm : ∀ l ∈ ls, MkF l ∧ l.length ≤ 140737488355328) (j : Nat) (hj : j < n) : ∃ ad a m c, LA = some ad ∧ m ≤ 140737488355328 ∧ W.cell? (ad.add j) = some (.slice (some a) (m + 2) c) ∧ W.cell? (a.add (m * 9)) = some (.string ⟨#[35]⟩) ∧ W.cell? (a.add ((m + 1) * 9)) = some (.string ⟨#[35, 35]⟩) := by
  obtain ⟨ad, cc, e, _, hK, hc0⟩ := Kd.C_get h [] (j : Int) (by omega) (by omega)
  rw [Int.toNat_natCast] at hK hc0
  have hl : j < ls.length := by rw [h.1]; exact hj
  have hg : ls.getD j [] = ls[j] := by rw [List.getD_eq_getElem?_getD, List.getElem?_eq_getElem hl]; rfl
  rw [hg] at hK
  obtain ⟨⟨l0, hl0⟩, hle⟩ := hm ls[j] (List.getElem_mem hl)
  obtain ⟨A, c, rfl, hlc, hC⟩ := hK
  rw [hl0] at hC hle
  have hlen : (l0 ++ [fm1, fm2]).length = l0.length + 2 := by simp
  rw [hlen] at hC hle
  obtain ⟨a1, x1, _, _, _, _, rfl, hx1, hcs1, _⟩ := at_F hC l0.length (by omega)
  obtain ⟨a2, x2, _, _, _, _, ea, hx2, hcs2, _⟩ := at_F hC (l0.length + 1) (by omega)
  obtain rfl := Option.some.inj ea
  have e1 : x1 = fm1 := by rw [List.getElem?_append_right (by omega), Nat.sub_self] at hx1; exact (Option.some.inj hx1).symm
  have e2 : x2 = fm2 := by rw [List.getElem?_append_right (by omega), Nat.add_sub_cancel_left] at hx2; exact (Option.some.inj hx2).symm
  subst e1 e2
  have h0 := hc0 0 _ rfl
  rw [hl0, hlen] at h0
  refine ⟨ad, a1, l0.length, c, e, by omega, ?_, hcs1.1, hcs2.1⟩
  have e9 : j * kFF.sz + 0 = j := by show j * 1 + 0 = j; omega
  rw [e9] at h0
  exact h0

set_option maxRecDepth 100000 in
set_option maxHeartbeats 8000000 in
/-- **(*Lent).Kept.** -/
theorem kept_any (w : World) (tb : Nat) (x : JV) (A B A2 B2 LA FA : Option Addr) (c d c2 d2 lc fc : Nat) (ls : List (List JV)) (fs : List (List JF)) (h : LentAt w tb x A B A2 B2 LA FA c d c2 d2 lc fc ls fs) :
    Calls Tryz.prog 13 #[.pointer (some ⟨tb, 0, none⟩)] w fun e w' => e = .returned (.bool true) ∧ Below w.heap.size w w' := by
  have hSof : ∀ W', Below w.heap.size w W' → W'.cell? ⟨tb, 0, none⟩ = some (.int .i64 x.kind) ∧ W'.cell? ⟨tb, 1, none⟩ = some (.bool x.truth) ∧ W'.cell? ⟨tb, 2, none⟩ = some (.bool x.neg) ∧ W'.cell? ⟨tb, 3, none⟩ = some (.string x.digits) ∧ W'.cell? ⟨tb, 4, none⟩ = some (.int .i64 x.exp) ∧ W'.cell? ⟨tb, 5, none⟩ = some (.string x.text) ∧ W'.cell? ⟨tb, 6, none⟩ = some (.slice A x.list.length c) ∧ W'.cell? ⟨tb, 7, none⟩ = some (.slice B x.fields.length d) ∧ W'.cell? ⟨tb, 8, none⟩ = some (.int .i64 x.kind) ∧ W'.cell? ⟨tb, 9, none⟩ = some (.bool x.truth) ∧ W'.cell? ⟨tb, 10, none⟩ = some (.bool x.neg) ∧ W'.cell? ⟨tb, 11, none⟩ = some (.string x.digits) ∧ W'.cell? ⟨tb, 12, none⟩ = some (.int .i64 x.exp) ∧ W'.cell? ⟨tb, 13, none⟩ = some (.string x.text) ∧ W'.cell? ⟨tb, 14, none⟩ = some (.slice A2 x.list.length c2) ∧ W'.cell? ⟨tb, 15, none⟩ = some (.slice B2 x.fields.length d2) := fun W' hb => by
    have k1 := cellAll (h.below hb).blk
    exact ⟨k1 0, k1 1, k1 2, k1 3, k1 4, k1 5, k1 6, k1 7, k1 8, k1 9, k1 10, k1 11, k1 12, k1 13, k1 14, k1 15⟩
  have hS0 := hSof w (Below.refl _ _)
  have hbd := (Below.refl w.heap.size w).drew
  have hS1 := hSof _ hbd
  have hsl := h.sl
  have hsf := h.sf
  have h0 := Aside0.mk h
  clear h
  go_enter Tryz.func13, Tryz.ntmps13
  go_wp2_with fail
  go_region_held3 (fun W' => W'.cell? ⟨tb, 0, none⟩ = some (.int .i64 x.kind) ∧ W'.cell? ⟨tb, 1, none⟩ = some (.bool x.truth) ∧ W'.cell? ⟨tb, 2, none⟩ = some (.bool x.neg) ∧ W'.cell? ⟨tb, 3, none⟩ = some (.string x.digits) ∧ W'.cell? ⟨tb, 4, none⟩ = some (.int .i64 x.exp) ∧ W'.cell? ⟨tb, 5, none⟩ = some (.string x.text) ∧ W'.cell? ⟨tb, 6, none⟩ = some (.slice A x.list.length c) ∧ W'.cell? ⟨tb, 7, none⟩ = some (.slice B x.fields.length d) ∧ W'.cell? ⟨tb, 8, none⟩ = some (.int .i64 x.kind) ∧ W'.cell? ⟨tb, 9, none⟩ = some (.bool x.truth) ∧ W'.cell? ⟨tb, 10, none⟩ = some (.bool x.neg) ∧ W'.cell? ⟨tb, 11, none⟩ = some (.string x.digits) ∧ W'.cell? ⟨tb, 12, none⟩ = some (.int .i64 x.exp) ∧ W'.cell? ⟨tb, 13, none⟩ = some (.string x.text) ∧ W'.cell? ⟨tb, 14, none⟩ = some (.slice A2 x.list.length c2) ∧ W'.cell? ⟨tb, 15, none⟩ = some (.slice B2 x.fields.length d2)) (first | exact hS0 | exact hS1 | exact hS2 | (simp [*]; done))
    (first
      | (go_at_call 22; refine (like_same x _ _ _ (h0.out.below hbd).kv (h0.out.below hbd).kw).mono ?_; rintro e w2 ⟨rfl, hb2'⟩; have hb2 := hbd.trans (hb2'.mono hbd.size); have hS2 := hSof _ hb2))
  all_goals (have h2 := Aside0.mk (h0.out.below hb2))
  all_goals (have hb20 := Aside0.mk hb2)
  all_goals (clear hS0 hS1 hS2 hSof hb2' hb2 hbd h0)
  all_goals (go_wp2_with fail)
  go_loopw [4] (fun i wr => ∃ j : Nat, i = .int .i64 j ∧ j ≤ ls.length ∧ Below w2.heap.size w2 wr) (fun i _ => ls.length - (intOf i).toNat)
  case atStart => exact ⟨0, rfl, Nat.zero_le _, Below.refl _ _⟩
  case round =>
    obtain ⟨j, rfl, hj, hB⟩ := hrel
    have hr := h2.out.below hB
    have hcr := cellAll hr.blk
    by_cases hlt : j < ls.length
    · have hlt2 : (j : Int) < (ls.length : Int) := by omega
      obtain ⟨ad, a, m, cc, rfl, hm, q0, q1, q2⟩ := marks_V hr.kl hr.ml j hlt
      have hw1 : IntKind.i64.wrap ((m : Int) + 2 - 2) = (m : Int) := by rw [IntKind.wrap_i64]; omega
      have hw2 : IntKind.i64.wrap ((m : Int) + 2 - 1) = (m : Int) + 1 := by rw [IntKind.wrap_i64]; omega
      have hm0 : (0 : Int) ≤ (m : Int) + 1 := by omega
      have hm1 : (m : Int) + 1 < (m : Int) + 2 := by omega
      have hm2 : (m : Int) < (m : Int) + 2 := by omega
      have hm3 : ((m : Int) + 1).toNat = m + 1 := by omega
      replace hr := Aside0.mk hr
      go_wp2_with fail
      go_roundw
      case rel => exact ⟨j + 1, by go_num, by omega, hB⟩
      case measure => simp [intOf]; omega
    · obtain rfl : j = ls.length := by omega
      have hno : ¬ ((ls.length : Nat) : Int) < ((ls.length : Nat) : Int) := by omega
      replace hr := Aside0.mk hr
      go_wp2_with fail
      go_loopw [6] (fun i wr2 => ∃ j : Nat, i = .int .i64 j ∧ j ≤ fs.length ∧ Below w2.heap.size w2 wr2) (fun i _ => fs.length - (intOf i).toNat)
      case atStart => exact ⟨0, rfl, Nat.zero_le _, hB⟩
      case round =>
        clear hcr hr
        obtain ⟨j, rfl, hj, hB2⟩ := hrel
        have hr := h2.out.below hB2
        have hcr := cellAll hr.blk
        by_cases hlt : j < fs.length
        · have hlt2 : (j : Int) < (fs.length : Int) := by omega
          obtain ⟨ad, a, m, cc, rfl, hm, q0, q1, q2⟩ := marks_F hr.kf hr.mf j hlt
          have hw1 : IntKind.i64.wrap ((m : Int) + 2 - 2) = (m : Int) := by rw [IntKind.wrap_i64]; omega
          have hw2 : IntKind.i64.wrap ((m : Int) + 2 - 1) = (m : Int) + 1 := by rw [IntKind.wrap_i64]; omega
          have hm0 : (0 : Int) ≤ (m : Int) + 1 := by omega
          have hm1 : (m : Int) + 1 < (m : Int) + 2 := by omega
          have hm2 : (m : Int) < (m : Int) + 2 := by omega
          have hm3 : ((m : Int) + 1).toNat = m + 1 := by omega
          replace hr := Aside0.mk hr
          go_wp2_with fail
          go_roundw
          case rel => exact ⟨j + 1, by go_num, by omega, hB2⟩
          case measure => simp [intOf]; omega
        · obtain rfl : j = fs.length := by omega
          have hno : ¬ ((fs.length : Nat) : Int) < ((fs.length : Nat) : Int) := by omega
          replace hr := Aside0.mk hr
          go_wp2_with fail
          go_ret
          exact ⟨rfl, hb20.out.trans (hB2.mono hb20.out.size)⟩
end Go.Proofs.YtmfijfcikecglaaGreatDoor
end
section
set_option linter.unusedVariables false
set_option linter.unusedSimpArgs false
namespace Go.Proofs.YtmfijfcikecglaaGreatDoor
open Go Go.RowKit Go.Proofs.YtmfijfcikecglaaGreatDoorW.PrintWords

/-- All blocks that were there stay, but those of lists of lists and of what is lent. -/
def KeptOld (w w' : World) : Prop := ∀ (b : Nat) (cs : Array Value) (q : TypeId), w.heap[b]? = some (.cells cs q (0, 0)) → q ≠ 36 → q ≠ 24 → q ≠ 25 → w'.heap[b]? = some (.cells cs q (0, 0))
theorem KeptOld.refl (w : World) : KeptOld w w := fun _ _ _ h _ _ _ => h
theorem KeptOld.trans {a b c : World} (h : KeptOld a b) (k : KeptOld b c) : KeptOld a c := fun i cs q hi h1 h2 h3 => k i cs q (h i cs q hi h1 h2 h3) h1 h2 h3
theorem KeptOld.of_below {a b : World} (h : Below a.heap.size a b) : KeptOld a b := fun i cs q hi _ _ _ => (h.block i (blk_lt hi)).trans hi
theorem EV_kept {q : Nat} (h : q ∈ EV) : q ≠ 36 ∧ q ≠ 24 ∧ q ≠ 25 := by
  unfold EV at h
  simp only [List.mem_cons, List.not_mem_nil, or_false] at h
  rcases h with rfl | rfl <;> decide
theorem kF_Ein {q : Nat} (h : q ∈ kF.E) : q ∈ EV := by
  have h2 : q ∈ (kFof kV).E := h
  exact subF kV (fun _ h => h) q h2
theorem rowV_E {q : Nat} (h : q ∈ 27 :: kV.E) : q ∈ EV := by
  rcases List.mem_cons.1 h with rfl | h
  · exact .head _
  · exact h
theorem rowF_E {q : Nat} (h : q ∈ 68 :: kF.E) : q ∈ EV := by
  rcases List.mem_cons.1 h with rfl | h
  · exact .tail _ (.head _)
  · exact kF_Ein h
section
variable {w w1 : World} {base : Nat} {ok : Nat → Prop} {v : Value}
/-- What a row of values or fields reaches stays. -/
theorem R_keptV {xs : List JV} (h : kV.R 27 w base ok v xs) (hk : KeptOld w w1) : kV.R 27 w1 base ok v xs :=
  Kd.R_mono (Kd.R_step (Kd.R_bound h) (fun k hk' _ => by
    obtain ⟨_, _, _, q, hq, cells, hc⟩ := hk'
    obtain ⟨h1, h2, h3⟩ := EV_kept (rowV_E hq)
    rw [hk k cells q hc h1 h2 h3, hc])) (fun _ h => h.1)
theorem R_keptF {xs : List JF} (h : kF.R 68 w base ok v xs) (hk : KeptOld w w1) : kF.R 68 w1 base ok v xs :=
  Kd.R_mono (Kd.R_step (Kd.R_bound h) (fun k hk' _ => by
    obtain ⟨_, _, _, q, hq, cells, hc⟩ := hk'
    obtain ⟨h1, h2, h3⟩ := EV_kept (rowF_E hq)
    rw [hk k cells q hc h1 h2 h3, hc])) (fun _ h => h.1)
end
/-- A row without its last elements. -/
theorem R_prefix {α : Type} {d : Kd α} {e : Nat} {w : World} {base g cap : Nat} {ok : Nat → Prop} {xs ys : List α} (h : d.R e w base ok (.slice (some ⟨g, 0, none⟩) (xs ++ ys).length cap) (xs ++ ys)) : d.R e w base ok (.slice (some ⟨g, 0, none⟩) xs.length cap) xs := by
  obtain ⟨h0, inner, ho, hr⟩ := h
  have hle : xs.length ≤ (xs ++ ys).length := by rw [List.length_append]; omega
  have hmul : xs.length * d.sz ≤ (xs ++ ys).length * d.sz := Nat.mul_le_mul_right _ hle
  refine ⟨h0, inner.take (xs.length * d.sz), ?_, ?_⟩
  · obtain ⟨hl, ho⟩ := ho
    refine ⟨by rw [List.length_take, hl]; omega, ?_⟩
    rcases ho with ⟨hv, _⟩ | ⟨g', cap', cur, hv, hb, hh, hn, hc, hs, ht⟩
    · cases hv
    · injection hv with e1 _ e2
      injection e1 with e1
      injection e1 with e1
      subst e1 e2
      refine .inr ⟨g, cap, cur, rfl, hb, hh, by omega, hc, hs, ?_⟩
      rw [← ht, List.take_take, Nat.min_eq_left hmul]
  · refine ⟨by rw [List.length_take, hr.1]; exact Nat.min_eq_left hmul, fun j p hj => ?_⟩
    have hjx := (List.getElem?_eq_some_iff.1 hj).1
    have h2 := hr.2 j p (by rw [List.getElem?_append_left hjx]; exact hj)
    have e9 : (inner.take (xs.length * d.sz)).drop (j * d.sz) = (inner.drop (j * d.sz)).take (xs.length * d.sz - j * d.sz) := List.drop_take
    rw [e9, List.take_take]
    have h3 : (j + 1) * d.sz ≤ xs.length * d.sz := Nat.mul_le_mul_right _ hjx
    rw [Nat.add_mul, Nat.one_mul] at h3
    rw [Nat.min_eq_left (by omega)]
    exact h2
section
variable {P : Program} {ops : Array Oper} {rest : List Oper} {o : Oper} {a : Act} {Q : Exit → Act → World → Prop} {α : Type}
/-- append(v, x, y). -/
theorem R_append2 (d : Kd α) {w0 W : World} (base : Nat) (hgd : o.guard = none) (s x : Operand) (t e : TypeId) (z : Value) (bytes : Nat)
    (ho : o.op = .call { callee := .builtin .append, args := #[s, x], argTypes := #[t, t] })
    (ht : P.underlying t = some (.slice e)) (hinfo : (P.info? e).map (fun i => (i.zero, i.size, i.bytes)) = some (some z, d.sz, bytes)) (hz : z.cells.size = d.sz) (hs0 : 0 < d.sz) (hb0 : 0 < bytes)
    (v : Value) (xs : List α) (p1 p2 : α) (cs1 cs2 : List Value) (cells : Array Value) (hcl : cells = (cs1 ++ cs2).toArray) (ok okp : Nat → Prop) (hs : a.eval s = v) (hx : a.eval x = .slice (some ⟨W.heap.size, 0, none⟩) 2 2) (hp1 : d.M W base okp p1 cs1) (hp2 : d.M W base okp p2 cs2) (hokp : ∀ k, okp k → ok k ∧ some k ≠ v.ownBlock) (hfresh : ∀ k, W.heap.size ≤ k → ok k)
    (HO : d.R e W base ok v xs) (HB : Below base w0 W) (hbase : base ≤ W.heap.size) (hl : (xs.length + 2) * bytes ≤ 140737488355328)
    (h : ∀ v1 w1, d.R e w1 base ok v1 (xs ++ [p1, p2]) → Below base w0 w1 → W.grownBy w1 v.ownBlock → (v1.ownBlock = v.ownBlock ∨ ∃ b, v1.ownBlock = some b ∧ W.heap.size ≤ b) → wpList P ops Q rest (a.put o.dst v1) w1) :
    wpList P ops Q (o :: rest) a (W.alloc (.cells cells e)) := by
  subst hcl
  obtain ⟨h0, inner, hown, hr⟩ := HO
  obtain ⟨i0, hi, hzz⟩ := Option.map_eq_some_iff.1 hinfo
  simp only [Prod.mk.injEq] at hzz
  obtain ⟨hz0, hz1, hz2⟩ := hzz
  have hlen : xs.length + 2 ≤ 140737488355328 := Nat.le_trans (Nat.le_mul_of_pos_right _ hb0) hl
  have l1 := d.K_len (d.K_of_M hp1)
  have l2 := d.K_len (d.K_of_M hp2)
  refine wpList_append_own_at (W.alloc (.cells (cs1 ++ cs2).toArray e)) hgd s x t ho base e i0 z d.sz bytes ht hi hz0 hz1 hz2 hz hs0 v xs.length inner hs (hown.alloc _) ⟨W.heap.size, 0, none⟩ 2 2 (cs1 ++ cs2) hx (by rw [List.length_append, l1, l2]; omega)
    (by simpa using World.news_of_block (cs := (cs1 ++ cs2).toArray) (t := e) (fr := (0, 0)) (heap_alloc_new W (.cells (cs1 ++ cs2).toArray e)))
    (by
      intro u hu
      rcases List.mem_append.1 hu with hu | hu
      · exact d.K_one (d.K_of_M hp1) u hu
      · exact d.K_one (d.K_of_M hp2) u hu) (by simp only [maxLen]; omega) hl (by simp; omega) ?_
  intro v1 w1 hown1 hg' _ hat'
  have hg := World.grownBy.trans (World.grownBy_alloc W (.cells (cs1 ++ cs2).toArray e) v.ownBlock) hg'
  have hat : v1.ownBlock = v.ownBlock ∨ ∃ b, v1.ownBlock = some b ∧ W.heap.size ≤ b := by
    rcases hat' with hat | hat
    · exact .inl hat
    · exact .inr ⟨_, hat, by simp⟩
  refine h v1 w1 ?_ ((HB.alloc hbase _).grown hg' (by simp; omega) (own_base hown)) hg hat
  have hne : ∀ k, some k ≠ v.ownBlock → k < W.heap.size → some k ≠ v1.ownBlock := by
    intro k hk hlt
    rcases hat with hat | ⟨b, hb, hle⟩
    · rw [hat]; exact hk
    · rw [hb]
      intro he
      injection he with he
      omega
  have step : ∀ {q : α} {c : List Value} {o : Nat → Prop}, d.M W base o q c → (∀ k, o k → ok k ∧ some k ≠ v.ownBlock) → d.M w1 base (fun k => ok k ∧ some k ≠ v1.ownBlock) q c := by
    intro q c o hq ho
    have h1 := d.M_move (w1 := w1) (fun k hk => hg.block k hk.2.2.1 (ho k hk.1).2) (d.M_bound hq)
    exact d.M_mono (fun k hk => ⟨(ho k hk.1).1, hne k (ho k hk.1).2 hk.2.2.1⟩) h1
  refine ⟨fun k hk => ?_, inner ++ (cs1 ++ cs2), by rw [List.length_append]; exact hown1, ?_⟩
  · rcases hat with hat | ⟨b, hb, hle⟩
    · exact h0 k (hat ▸ hk)
    · rw [hb] at hk
      injection hk with hk
      exact hfresh k (by omega)
  · have h2 := ((hr.imp_ (fun _ _ hq => step hq (fun _ hk => hk))).snoc (step hp1 hokp) l1).snoc (step hp2 hokp) l2
    rw [List.append_assoc, List.append_assoc] at h2
    exact h2
end
theorem M_mk77 (w : World) (base : Nat) : kV.M w base (fun _ => False) mk77 [.int .i64 77, .bool false, .bool false, .string ⟨#[]⟩, .int .i64 0, .string ⟨#[]⟩, .slice none 0 0, .slice none 0 0] := kV_mkM (x := mk77) (Kd.R_nil _ _ _ _ _) (Kd.R_nil _ _ _ _ _)
theorem M_mk78 (w : World) (base : Nat) : kV.M w base (fun _ => False) mk78 [.int .i64 78, .bool false, .bool false, .string ⟨#[]⟩, .int .i64 0, .string ⟨#[]⟩, .slice none 0 0, .slice none 0 0] := kV_mkM (x := mk78) (Kd.R_nil _ _ _ _ _) (Kd.R_nil _ _ _ _ _)
theorem M_fm (w : World) (base : Nat) (s : ByteArray) : kF.M w base (fun _ => False) (.mk s JV.nul) [.string s, .int .i64 0, .bool false, .bool false, .string ⟨#[]⟩, .int .i64 0, .string ⟨#[]⟩, .slice none 0 0, .slice none 0 0] := ⟨[.string s], _, rfl, rfl, kV_mkM (x := JV.nul) (Kd.R_nil _ _ _ _ _) (Kd.R_nil _ _ _ _ _)⟩
def zL : Value := .slice none 0 0
theorem infoLV : (Tryz.prog.info? 24).map (fun i => (i.zero, i.size, i.bytes)) = some (some zL, 1, 24) := by kernel_rfl
theorem infoLF : (Tryz.prog.info? 25).map (fun i => (i.zero, i.size, i.bytes)) = some (some zL, 1, 24) := by kernel_rfl
end Go.Proofs.YtmfijfcikecglaaGreatDoor
end
section
set_option linter.unusedVariables false
set_option linter.unusedSimpArgs false
namespace Go.Proofs.YtmfijfcikecglaaGreatDoor
open Go Go.RowKit Go.Proofs.YtmfijfcikecglaaGreatDoorW.PrintWords

theorem KeptOld.grown {a b c : World} (h : KeptOld a b) {row : Option Nat} (hg : b.grownBy c row) (hr : ∀ k, row = some k → a.heap.size ≤ k) (hs : a.heap.size ≤ b.heap.size) : KeptOld a c := fun i cs q hi h1 h2 h3 => by
  have hlt := blk_lt hi
  exact (hg.block i (by omega) (fun e => by have := hr i e.symm; omega)).trans (h i cs q hi h1 h2 h3)
theorem KeptOld.set {a b : World} (h : KeptOld a b) {g j : Nat} (hg : a.heap.size ≤ g) (u : Value) : KeptOld a (b.setCell ⟨g, j, none⟩ u) := fun i cs q hi h1 h2 h3 => by
  have hlt := blk_lt hi
  rw [Below.heap_setCell b ⟨g, j, none⟩ u i (by show i ≠ g; omega)]
  exact h i cs q hi h1 h2 h3
/-- A Lent's block tb at W, in a call that began at w (its lent values lie in w0); the rows' footprints satisfy ok. -/
structure Lnt (w0 w W : World) (tb : Nat) (P : Nat → Value) (ok : Nat → Prop) (vl vf : Value) (ls : List (List JV)) (fs : List (List JF)) : Prop where
  blk : W.heap[tb]? = some (.cells #[P 0, P 1, P 2, P 3, P 4, P 5, P 6, P 7, P 8, P 9, P 10, P 11, P 12, P 13, P 14, P 15, vl, vf] 36 (0, 0))
  rl : kLL.R 24 W w0.heap.size ok vl ls
  rf : kFF.R 25 W w0.heap.size ok vf fs
  low : Below w0.heap.size w0 W
  old : KeptOld w W
  sz : w.heap.size ≤ W.heap.size
  tbg : w0.heap.size ≤ tb
  w0w : w0.heap.size ≤ w.heap.size
section
variable {w0 w W W' : World} {tb : Nat} {P : Nat → Value} {ok ok' : Nat → Prop} {vl vf : Value} {ls : List (List JV)} {fs : List (List JF)}
theorem Lnt.mono (h : Lnt w0 w W tb P ok vl vf ls fs) (hk : ∀ k, ok k → ok' k) : Lnt w0 w W tb P ok' vl vf ls fs := ⟨h.blk, Kd.R_mono h.rl hk, Kd.R_mono h.rf hk, h.low, h.old, h.sz, h.tbg, h.w0w⟩
/-- All footprints lie below the world's size. -/
theorem Lnt.bound (h : Lnt w0 w W tb P ok vl vf ls fs) : Lnt w0 w W tb P (fun k => ok k ∧ k < W.heap.size) vl vf ls fs := ⟨h.blk, Kd.R_mono (Kd.R_bound h.rl) (fun k hk => ⟨hk.1, hk.2.2.1⟩), Kd.R_mono (Kd.R_bound h.rf) (fun k hk => ⟨hk.1, hk.2.2.1⟩), h.low, h.old, h.sz, h.tbg, h.w0w⟩
theorem Lnt.below (h : Lnt w0 w W tb P ok vl vf ls fs) (hb : Below W.heap.size W W') : Lnt w0 w W' tb P ok vl vf ls fs :=
  ⟨(hb.block _ (blk_lt h.blk)).trans h.blk, Kd.R_below h.rl hb, Kd.R_below h.rf hb, h.low.trans (hb.mono h.low.size), h.old.trans (KeptOld.of_below hb), Nat.le_trans h.sz hb.size, h.tbg, h.w0w⟩
/-- The call that begins here. -/
theorem Lnt.here (h : Lnt w0 w W tb P ok vl vf ls fs) : Lnt w0 W W tb P ok vl vf ls fs := ⟨h.blk, h.rl, h.rf, h.low, KeptOld.refl W, Nat.le_refl _, h.tbg, Nat.le_trans h.w0w h.sz⟩
theorem Lnt.back {vl' vf' : Value} {ls' : List (List JV)} {fs' : List (List JF)} (h : Lnt w0 w W tb P ok vl vf ls fs) (h' : Lnt w0 W W' tb P ok' vl' vf' ls' fs') : Lnt w0 w W' tb P ok' vl' vf' ls' fs' := ⟨h'.blk, h'.rl, h'.rf, h'.low, h.old.trans h'.old, Nat.le_trans h.sz h'.sz, h.tbg, h.w0w⟩
/-- A row of one's own grows. -/
theorem Lnt.grown {v v1 : Value} (h : Lnt w0 w W tb P (fun k => ok k ∧ some k ≠ v.ownBlock) vl vf ls fs) (hg : W.grownBy W' v.ownBlock) (hat : v1.ownBlock = v.ownBlock ∨ ∃ b, v1.ownBlock = some b ∧ W.heap.size ≤ b) (hnew : ∀ k, v.ownBlock = some k → w.heap.size ≤ k) (htb : some tb ≠ v.ownBlock) : Lnt w0 w W' tb P (fun k => ok k ∧ some k ≠ v1.ownBlock) vl vf ls fs :=
  ⟨blk_grown h.blk hg htb, Kd.R_after h.rl hg hat, Kd.R_after h.rf hg hat, h.low.grown hg h.low.size (fun k hk => Nat.le_trans h.w0w (hnew k hk)), h.old.grown hg hnew h.sz, Nat.le_trans h.sz hg.size, h.tbg, h.w0w⟩
/-- A store elsewhere. -/
theorem Lnt.set (h : Lnt w0 w W tb P ok vl vf ls fs) {g : Nat} (hg : w.heap.size ≤ g) (hne : tb ≠ g) (hok : ∀ k, ok k → k ≠ g) (j : Nat) (u : Value) : Lnt w0 w (W.setCell ⟨g, j, none⟩ u) tb P ok vl vf ls fs :=
  ⟨(Below.heap_setCell W ⟨g, j, none⟩ u tb hne).trans h.blk, Kd.R_far h.rl hok u, Kd.R_far h.rf hok u, h.low.setCell (by show w0.heap.size ≤ g; have := h.w0w; omega) u, h.old.set hg u, by rw [World.size_setCell]; exact h.sz, h.tbg, h.w0w⟩
/-- A list is added to the lists. -/
theorem Lnt.addL {vl1 : Value} {l : List JV} (h : Lnt w0 w W tb P ok vl vf ls fs) (hr : kLL.R 24 W' w0.heap.size ok vl1 (ls ++ [l])) (hg : W.grownBy W' vl.ownBlock) (hnew : ∀ k, vl.ownBlock = some k → w0.heap.size ≤ k) : Lnt w0 w (W'.setCell ⟨tb, 16, none⟩ vl1) tb P ok vl1 vf (ls ++ [l]) fs := by
  have hty : ∀ k, vl.ownBlock = some k → ∃ cells, W.heap[k]? = some (.cells cells 24 (0, 0)) := fun k hk => by
    obtain ⟨inner, ho⟩ := Kd.R_own h.rl
    exact own_typed ho k hk
  have htb : some tb ≠ vl.ownBlock := fun e => by
    obtain ⟨cells, hc⟩ := hty tb e.symm
    rw [h.blk] at hc
    injection hc with hc
    injection hc with _ ht
    exact absurd ht (by decide)
  have hblk := blk_grown h.blk hg htb
  have hrf := Kd.R_over h.rf h.rl (fun q hq => by
    have hq' : q ∈ 25 :: 68 :: kF.E := hq
    rcases List.mem_cons.1 hq' with rfl | hq'
    · decide
    · exact (EV_kept (rowF_E hq')).2.1) hg
  have hLE : ∀ q, q ∈ 24 :: kLL.E → q ≠ 36 := fun q hq => by
    have hq' : q ∈ 24 :: 27 :: kV.E := hq
    rcases List.mem_cons.1 hq' with rfl | hq'
    · decide
    · exact (EV_kept (rowV_E hq')).1
  have hFE : ∀ q, q ∈ 25 :: kFF.E → q ≠ 36 := fun q hq => by
    have hq' : q ∈ 25 :: 68 :: kF.E := hq
    rcases List.mem_cons.1 hq' with rfl | hq'
    · decide
    · exact (EV_kept (rowF_E hq')).1
  refine ⟨blk_set hblk 16 vl1, Kd.R_set hr hblk hLE 16 vl1, Kd.R_set hrf hblk hFE 16 vl1, (h.low.grown hg h.low.size hnew).setCell h.tbg vl1, ?_, by rw [World.size_setCell]; exact Nat.le_trans h.sz hg.size, h.tbg, h.w0w⟩
  intro i cs q hi h1 h2 h3
  have hW := h.old i cs q hi h1 h2 h3
  have hne1 : some i ≠ vl.ownBlock := fun e => by
    obtain ⟨cells, hc⟩ := hty i e.symm
    rw [hW] at hc
    injection hc with hc
    injection hc with _ ht
    exact h2 ht
  have hne2 : i ≠ tb := by
    rintro rfl
    rw [h.blk] at hW
    injection hW with hW
    injection hW with _ ht
    exact h1 ht.symm
  rw [Below.heap_setCell W' ⟨tb, 16, none⟩ vl1 i hne2]
  exact blk_grown hW hg hne1
theorem Lnt.addF {vf1 : Value} {l : List JF} (h : Lnt w0 w W tb P ok vl vf ls fs) (hr : kFF.R 25 W' w0.heap.size ok vf1 (fs ++ [l])) (hg : W.grownBy W' vf.ownBlock) (hnew : ∀ k, vf.ownBlock = some k → w0.heap.size ≤ k) : Lnt w0 w (W'.setCell ⟨tb, 17, none⟩ vf1) tb P ok vl vf1 ls (fs ++ [l]) := by
  have hty : ∀ k, vf.ownBlock = some k → ∃ cells, W.heap[k]? = some (.cells cells 25 (0, 0)) := fun k hk => by
    obtain ⟨inner, ho⟩ := Kd.R_own h.rf
    exact own_typed ho k hk
  have htb : some tb ≠ vf.ownBlock := fun e => by
    obtain ⟨cells, hc⟩ := hty tb e.symm
    rw [h.blk] at hc
    injection hc with hc
    injection hc with _ ht
    exact absurd ht (by decide)
  have hblk := blk_grown h.blk hg htb
  have hrl := Kd.R_over h.rl h.rf (fun q hq => by
    have hq' : q ∈ 24 :: 27 :: kV.E := hq
    rcases List.mem_cons.1 hq' with rfl | hq'
    · decide
    · exact (EV_kept (rowV_E hq')).2.2) hg
  have hLE : ∀ q, q ∈ 24 :: kLL.E → q ≠ 36 := fun q hq => by
    have hq' : q ∈ 24 :: 27 :: kV.E := hq
    rcases List.mem_cons.1 hq' with rfl | hq'
    · decide
    · exact (EV_kept (rowV_E hq')).1
  have hFE : ∀ q, q ∈ 25 :: kFF.E → q ≠ 36 := fun q hq => by
    have hq' : q ∈ 25 :: 68 :: kF.E := hq
    rcases List.mem_cons.1 hq' with rfl | hq'
    · decide
    · exact (EV_kept (rowF_E hq')).1
  refine ⟨blk_set hblk 17 vf1, Kd.R_set hrl hblk hLE 17 vf1, Kd.R_set hr hblk hFE 17 vf1, (h.low.grown hg h.low.size hnew).setCell h.tbg vf1, ?_, by rw [World.size_setCell]; exact Nat.le_trans h.sz hg.size, h.tbg, h.w0w⟩
  intro i cs q hi h1 h2 h3
  have hW := h.old i cs q hi h1 h2 h3
  have hne1 : some i ≠ vf.ownBlock := fun e => by
    obtain ⟨cells, hc⟩ := hty i e.symm
    rw [hW] at hc
    injection hc with hc
    injection hc with _ ht
    exact h3 ht
  have hne2 : i ≠ tb := by
    rintro rfl
    rw [h.blk] at hW
    injection hW with hW
    injection hW with _ ht
    exact h1 ht.symm
  rw [Below.heap_setCell W' ⟨tb, 17, none⟩ vf1 i hne2]
  exact blk_grown hW hg hne1
/-- A row of values is apart from a row of rows. -/
theorem R_apartL {base : Nat} {v : Value} {xs : List JV} (h : kV.R 27 W base ok v xs) (hu : kLL.R 24 W w0.heap.size ok' vl ls) : kV.R 27 W base (fun k => (ok k ∧ base ≤ k) ∧ some k ≠ vl.ownBlock) v xs :=
  Kd.R_mono (Kd.R_bound h) (fun k hk => ⟨⟨hk.1, hk.2.1⟩, fun e => by
    obtain ⟨_, _, _, q, hq, cells, hc⟩ := hk
    obtain ⟨inner, ho⟩ := Kd.R_own hu
    obtain ⟨cells', hc'⟩ := own_typed ho k e.symm
    rw [hc] at hc'
    injection hc' with hc'
    injection hc' with _ ht
    exact (EV_kept (rowV_E hq)).2.1 ht⟩)
theorem R_apartF {base : Nat} {v : Value} {xs : List JF} (h : kF.R 68 W base ok v xs) (hu : kFF.R 25 W w0.heap.size ok' vf fs) : kF.R 68 W base (fun k => (ok k ∧ base ≤ k) ∧ some k ≠ vf.ownBlock) v xs :=
  Kd.R_mono (Kd.R_bound h) (fun k hk => ⟨⟨hk.1, hk.2.1⟩, fun e => by
    obtain ⟨_, _, _, q, hq, cells, hc⟩ := hk
    obtain ⟨inner, ho⟩ := Kd.R_own hu
    obtain ⟨cells', hc'⟩ := own_typed ho k e.symm
    rw [hc] at hc'
    injection hc' with hc'
    injection hc' with _ ht
    exact (EV_kept (rowF_E hq)).2.2 ht⟩)
/-- tb is no row of values'. -/
theorem Lnt.tb_ne {base : Nat} {v : Value} {xs : List JV} (h : Lnt w0 w W tb P ok vl vf ls fs) (hr : kV.R 27 W base ok' v xs) : some tb ≠ v.ownBlock := Kd.R_ne hr h.blk (by decide)
theorem Lnt.tb_neF {base : Nat} {v : Value} {xs : List JF} (h : Lnt w0 w W tb P ok vl vf ls fs) (hr : kF.R 68 W base ok' v xs) : some tb ≠ v.ownBlock := Kd.R_ne hr h.blk (by decide)
end
def MarkOK (x : JV) : Prop := ∀ (w0 w : World) (tb : Nat) (P : Nat → Value) (ok : Nat → Prop) (vl vf : Value) (ls : List (List JV)) (fs : List (List JF)) (cs : List Value), kV.K w0 x cs → Lnt w0 w w tb P ok vl vf ls fs → x.wt ≤ 4294967296 → ls.length + x.wt ≤ 1099511627776 → fs.length + x.wt ≤ 1099511627776 →
  Calls Tryz.prog 35 #[.pointer (some ⟨tb, 0, none⟩), .agg cs.toArray] w fun e w' => ∃ cs' vl' vf' ls' fs', e = .returned (.agg cs'.toArray) ∧ kV.M w' w.heap.size (fun _ => True) x cs' ∧ Lnt w0 w w' tb P (fun k => ok k ∨ w.heap.size ≤ k) vl' vf' (ls ++ ls') (fs ++ fs') ∧ (∀ l ∈ ls', MkL l ∧ l.length ≤ 140737488355328) ∧ (∀ l ∈ fs', MkF l ∧ l.length ≤ 140737488355328) ∧ ls'.length ≤ x.wt ∧ fs'.length ≤ x.wt
end Go.Proofs.YtmfijfcikecglaaGreatDoor
end
section
set_option linter.unusedVariables false
set_option linter.unusedSimpArgs false
namespace Go.Proofs.YtmfijfcikecglaaGreatDoor
open Go Go.RowKit Go.Proofs.YtmfijfcikecglaaGreatDoorW.PrintWords

theorem R_open2 {α : Type} {d : Kd α} {e : Nat} {w : World} {base : Nat} {ok : Nat → Prop} {v : Value} {xs : List α} (h : d.R e w base ok v xs) (hp : 0 < xs.length) : ∃ g cap, v = .slice (some ⟨g, 0, none⟩) xs.length cap ∧ base ≤ g ∧ g < w.heap.size ∧ xs.length ≤ cap := by
  obtain ⟨_, inner, ⟨_, ho⟩, _⟩ := h
  rcases ho with ⟨_, h0⟩ | ⟨g, cap, cur, hv, hb, hh, hn, _⟩
  · omega
  · exact ⟨g, cap, hv, hb, blk_lt hh, hn⟩
theorem wtF_one (x : JF) : JV.wtF [x] = 1 + x.name.size + x.value.wt := by
  cases x
  rw [JV.wtF, JV.wtF]
  rfl
theorem R_setsG {W W1 : World} {g base : Nat} {v : Value} {out : List JF} {u0 u1 u2 u3 u4 u5 u6 u7 : Value} (h : kF.R 68 W1 W.heap.size (fun _ => True) v out) (hg : g < W.heap.size) (hb : base ≤ W.heap.size) :
    kF.R 68 ((((((((W1.setCell ⟨g, 0, none⟩ u0).setCell ⟨g, 1, none⟩ u1).setCell ⟨g, 2, none⟩ u2).setCell ⟨g, 3, none⟩ u3).setCell ⟨g, 4, none⟩ u4).setCell ⟨g, 5, none⟩ u5).setCell ⟨g, 6, none⟩ u6).setCell ⟨g, 7, none⟩ u7) base (fun _ => True) v out := by
  refine Kd.R_lower (Kd.R_mono (Kd.R_keep (ok := fun k => W.heap.size ≤ k) (g := g) (Kd.R_mono (Kd.R_bound h) (fun k hk => hk.2.1)) ?_ (fun k hk => by omega)) (fun _ _ => trivial)) hb
  exact ((((((((KeepBut.refl _ _ _).set_ _ _).set_ _ _).set_ _ _).set_ _ _).set_ _ _).set_ _ _).set_ _ _).set_ _ _

set_option maxRecDepth 100000 in
set_option maxHeartbeats 16000000 in
theorem marked_10 (w0 w : World) (tb : Nat) (P : Nat → Value) (ok : Nat → Prop) (vl vf : Value) (ls : List (List JV)) (fs0 : List (List JF)) (k : Int) (t ng : Bool) (ds tx : ByteArray) (ex : Int) (A B : Option Addr) (nl c nf d : Nat) (xs : List JV) (fs : List JF) (hC : kV.C w0 A nl xs) (hCf : kF.C w0 B nf fs) (hN : Lnt w0 w w tb P ok vl vf ls fs0) (hok : ∀ y ∈ xs, MarkOK y) (hokf : ∀ g ∈ fs, MarkOK g.value) (hwt : JV.wtL xs + JV.wtF fs ≤ 4294967295) (hls : ls.length + (JV.wtL xs + JV.wtF fs) < 1099511627776) (hfs : fs0.length + (JV.wtL xs + JV.wtF fs) < 1099511627776) (hL : 0 < nl) (hF : nf = 0) :
    Calls Tryz.prog 35 #[.pointer (some ⟨tb, 0, none⟩), .agg #[.int .i64 k, .bool t, .bool ng, .string ds, .int .i64 ex, .string tx, .slice A nl c, .slice B nf d]] w fun e w' => ∃ cs' vl' vf' ls' fs', e = .returned (.agg cs'.toArray) ∧ kV.M w' w.heap.size (fun _ => True) (.mk k t ng ds ex tx xs fs) cs' ∧ Lnt w0 w w' tb P (fun k => ok k ∨ w.heap.size ≤ k) vl' vf' (ls ++ ls') (fs0 ++ fs') ∧ (∀ l ∈ ls', MkL l ∧ l.length ≤ 140737488355328) ∧ (∀ l ∈ fs', MkF l ∧ l.length ≤ 140737488355328) ∧ ls'.length ≤ 1 + (JV.wtL xs + JV.wtF fs) ∧ fs'.length ≤ 1 + (JV.wtL xs + JV.wtF fs) := by
  subst hF
  have hlenL := hC.1
  have hlenF := hCf.1
  have hllL := wtL_len xs
  have hllF := wtF_len fs
  have hB0 := ((Below.refl w.heap.size w).alloc (Nat.le_refl _) (.cells #[.int .i64 k, .bool t, .bool ng, .string ds, .int .i64 ex, .string tx, .slice A nl c, .slice B 0 d] 27)).alloc (by simp) (.cells #[.int .i64 0, .bool false, .bool false, .string ⟨#[]⟩, .int .i64 0, .string ⟨#[]⟩, .slice none 0 0, .slice none 0 0] 27)
  obtain ⟨e0, e1⟩ := boxes' w (.cells #[.int .i64 k, .bool t, .bool ng, .string ds, .int .i64 ex, .string tx, .slice A nl c, .slice B 0 d] 27) (.cells #[.int .i64 0, .bool false, .bool false, .string ⟨#[]⟩, .int .i64 0, .string ⟨#[]⟩, .slice none 0 0, .slice none 0 0] 27)
  have hl2 : (0 : Int) < (nl : Int) := by omega
  go_enter Tryz.func35, Tryz.ntmps35
  go_wp2_with fail
  obtain ⟨W3, hW3⟩ : ∃ W3, (((w.alloc (.cells #[.int .i64 k, .bool t, .bool ng, .string ds, .int .i64 ex, .string tx, .slice A nl c, .slice B 0 d] 27)).alloc (.cells #[.int .i64 0, .bool false, .bool false, .string ⟨#[]⟩, .int .i64 0, .string ⟨#[]⟩, .slice none 0 0, .slice none 0 0] 27)).alloc (.cells #[.int .i64 k, .bool t, .bool ng, .string ds, .int .i64 ex, .string tx, .slice none 0 0, .slice none 0 0] 27)) = W3 := ⟨_, rfl⟩
  have f2 := heap_alloc_new ((w.alloc (.cells #[.int .i64 k, .bool t, .bool ng, .string ds, .int .i64 ex, .string tx, .slice A nl c, .slice B 0 d] 27)).alloc (.cells #[.int .i64 0, .bool false, .bool false, .string ⟨#[]⟩, .int .i64 0, .string ⟨#[]⟩, .slice none 0 0, .slice none 0 0] 27)) (.cells #[.int .i64 k, .bool t, .bool ng, .string ds, .int .i64 ex, .string tx, .slice none 0 0, .slice none 0 0] 27)
  have f0 := (heap_alloc_old _ (.cells #[.int .i64 k, .bool t, .bool ng, .string ds, .int .i64 ex, .string tx, .slice none 0 0, .slice none 0 0] 27) (blk_lt e0)).trans e0
  have f1 := (heap_alloc_old _ (.cells #[.int .i64 k, .bool t, .bool ng, .string ds, .int .i64 ex, .string tx, .slice none 0 0, .slice none 0 0] 27) (blk_lt e1)).trans e1
  have hB3 := hB0.alloc (by simp; omega) (.cells #[.int .i64 k, .bool t, .bool ng, .string ds, .int .i64 ex, .string tx, .slice none 0 0, .slice none 0 0] 27)
  have hs2 : ((w.alloc (.cells #[.int .i64 k, .bool t, .bool ng, .string ds, .int .i64 ex, .string tx, .slice A nl c, .slice B 0 d] 27)).alloc (.cells #[.int .i64 0, .bool false, .bool false, .string ⟨#[]⟩, .int .i64 0, .string ⟨#[]⟩, .slice none 0 0, .slice none 0 0] 27)).heap.size = w.heap.size + 1 + 1 := by simp
  have hs3 : W3.heap.size = w.heap.size + 3 := by rw [← hW3]; simp
  rw [hs2] at f2
  rw [hW3] at f0 f1 f2 hB3 ⊢
  clear hW3
  have hN3 := (hN.bound.below hB3).mono (ok' := fun k => (ok k ∧ k < w.heap.size) ∨ W3.heap.size ≤ k) (fun k hk => .inl hk)
  have hc0 := cellAll f0
  have hg1 : w.heap.size < W3.heap.size := by omega
  have hg2 : w.heap.size + 1 < W3.heap.size := by omega
  have hg3 : w.heap.size + 1 + 1 < W3.heap.size := by omega
  clear hs2 e0 e1 hB0
  replace hlenL := Aside0.mk hlenL
  replace hlenF := Aside0.mk hlenF
  replace f0 := Aside0.mk f0
  replace f1 := Aside0.mk f1
  replace f2 := Aside0.mk f2
  replace hB3 := Aside0.mk hB3
  replace hN3 := Aside0.mk hN3
  replace hN := Aside0.mk hN
  replace hs3 := Aside0.mk hs3
  have hnl : nl ≤ 4294967296 := by have := hlenL.out; omega
  replace hwt := Aside0.mk hwt
  replace hls := Aside0.mk hls
  replace hfs := Aside0.mk hfs
  go_loopw [6, 7] (fun u6 i wr => ∃ (j : Nat) (vl1 vf1 : Value) (ls1 : List (List JV)) (fs1 : List (List JF)), i = .int .i64 j ∧ j ≤ nl ∧ Lnt w0 w wr tb P (fun k => (fun k => (ok k ∧ k < w.heap.size) ∨ W3.heap.size ≤ k) k ∧ some k ≠ u6.ownBlock) vl1 vf1 (ls ++ ls1) (fs0 ++ fs1) ∧ kV.R 27 wr W3.heap.size (fun _ => True) u6 (xs.take j) ∧ (KeptOld W3 wr ∧ W3.heap.size ≤ wr.heap.size) ∧ (∀ l ∈ ls1, MkL l ∧ l.length ≤ 140737488355328) ∧ (∀ l ∈ fs1, MkF l ∧ l.length ≤ 140737488355328) ∧ ls1.length ≤ JV.wtL (xs.take j) ∧ fs1.length ≤ JV.wtL (xs.take j)) (fun _ i _ => nl - (intOf i).toNat)
  case atStart => exact ⟨0, vl, vf, [], [], rfl, Nat.zero_le _, by rw [List.append_nil, List.append_nil]; exact hN3.out.mono (fun k hk => ⟨hk, by simp [Value.ownBlock]⟩), R_nilV _ _ _, ⟨KeptOld.refl _, Nat.le_refl _⟩, (fun l h => nomatch h), (fun l h => nomatch h), Nat.zero_le _, Nat.zero_le _⟩
  case round =>
    obtain ⟨j, vl1, vf1, ls1, fs1, rfl, hj, hN4, hR4, hk4, hm1, hf1', hn1, hnf1⟩ := hrel
    clear hc0
    have hbf := hk4.1 _ _ _ f0.out (by decide) (by decide) (by decide)
    have hcf := cellAll hbf
    replace hbf := Aside0.mk hbf
    obtain ⟨inner4, hown4⟩ := Kd.R_own hR4
    have hsum : JV.wtL xs = JV.wtL (xs.take j) + JV.wtL (xs.drop j) := by rw [← wtL_app, List.take_append_drop]
    by_cases hlt : j < nl
    · obtain ⟨ad, x, A6, c6, A7, c7, rfl, hx, hcs, l6, g6, l7, g7⟩ := at_V hC j hlt
      have hK := kV_mkK l6 g6 l7 g7
      unfold JV.cells at hcs hK
      obtain ⟨q0, q1, q2, q3, q4, q5, q6, q7, _⟩ := hcs
      have hxm : x ∈ xs := List.mem_of_getElem? hx
      have hwx := wt_memL hxm
      have hoj := hok x hxm
      have hw2 : JV.wtL (xs.take (j + 1)) = JV.wtL (xs.take j) + (1 + x.wt) := by
        rw [List.take_add_one, hx, Option.toList_some, wtL_app, JV.wtL, JV.wtL]; omega
      have hw3 : JV.wtL xs = JV.wtL (xs.take (j + 1)) + JV.wtL (xs.drop (j + 1)) := by rw [← wtL_app, List.take_append_drop]
      have hbw := hN4.low
      obtain ⟨p0, p1, p2, p3, p4, p5, p6, p7⟩ : wr.cell? (ad.add (j * 8)) = some (.int .i64 x.kind) ∧ wr.cell? ⟨(ad.add (j * 8)).block, (ad.add (j * 8)).off + (0 + 1), none⟩ = some (.bool x.truth) ∧ wr.cell? ⟨(ad.add (j * 8)).block, (ad.add (j * 8)).off + (1 + 1), none⟩ = some (.bool x.neg) ∧ wr.cell? ⟨(ad.add (j * 8)).block, (ad.add (j * 8)).off + (2 + 1), none⟩ = some (.string x.digits) ∧ wr.cell? ⟨(ad.add (j * 8)).block, (ad.add (j * 8)).off + (3 + 1), none⟩ = some (.int .i64 x.exp) ∧ wr.cell? ⟨(ad.add (j * 8)).block, (ad.add (j * 8)).off + (4 + 1), none⟩ = some (.string x.text) ∧ wr.cell? ⟨(ad.add (j * 8)).block, (ad.add (j * 8)).off + (5 + 1), none⟩ = some (.slice A6 x.list.length c6) ∧ wr.cell? ⟨(ad.add (j * 8)).block, (ad.add (j * 8)).off + (6 + 1), none⟩ = some (.slice A7 x.fields.length c7) := ⟨pw_cell_below hbw q0, pw_cell_below hbw q1, pw_cell_below hbw q2, pw_cell_below hbw q3, pw_cell_below hbw q4, pw_cell_below hbw q5, pw_cell_below hbw q6, pw_cell_below hbw q7⟩
      have hj0 : (0 : Int) ≤ (j : Int) := by omega
      have hlt2 : (j : Int) < (nl : Int) := by omega
      have htj : (xs.take j).length = j := by rw [List.length_take, hlenL.out]; omega
      replace htj := Aside0.mk htj
      have hbA : Aside0 (x.wt ≤ 4294967296) := ⟨by have := hwt.out; omega⟩
      have hbB : Aside0 ((ls ++ ls1).length + x.wt ≤ 1099511627776) := ⟨by have := hls.out; rw [List.length_append]; omega⟩
      have hbC : Aside0 ((fs0 ++ fs1).length + x.wt ≤ 1099511627776) := ⟨by have := hfs.out; rw [List.length_append]; omega⟩
      have hN4h := Aside0.mk hN4.here
      replace hN4 := Aside0.mk hN4
      replace hR4 := Aside0.mk hR4
      replace hown4 := Aside0.mk hown4
      replace hw2 := Aside0.mk hw2
      replace hw3 := Aside0.mk hw3
      replace hsum := Aside0.mk hsum
      replace hx := Aside0.mk hx
      clear hxm q0 q1 q2 q3 q4 q5 q6 q7
      go_wp2_with (first | ((with_reducible refine gate_builtin (b := .append) (xs := #[.tmp 24, .tmp 32]) rfl ?_); at_builtin; refine Kd.R_append kV (w0 := w4) W3.heap.size rfl (.tmp 24) (.tmp 32) 24 27 zV 112 rfl Tryz.underlying24 infoV rfl (by decide) (by omega) u6 (xs.take j) x [.int .i64 x.kind, .bool x.truth, .bool x.neg, .string x.digits, .int .i64 x.exp, .string x.text, .slice Al x.list.length cl, .slice Af x.fields.length cf] (fun _ => True) _ rfl rfl hM6.out (fun _ hk => hk) (fun _ _ => trivial) hR6.out (Below.refl _ _) hs6 ?aL ?_; (case aL => rw [htj.out]; omega); intro v1 w5 hR7 hB7 hg7 hat7; replace hR7 := Aside0.mk hR7; replace hg7 := Aside0.mk hg7; replace hat7 := Aside0.mk hat7; replace hB7 := Aside0.mk hB7) | (go_at_call 35; refine (hoj w0 _ tb P _ _ _ _ _ _ hK hN4h.out hbA.out hbB.out hbC.out).mono ?_; rintro e w4 ⟨cs', vl2, vf2, ls2, fs2, rfl, hM, hN5, hm2, hf2, hn2, hnf2⟩; obtain ⟨vl8, vf8, rfl, hRl8, hRf8⟩ := kV_openM hM; unfold JV.cells at hM; obtain ⟨Al, cl, rfl⟩ := Kd.R_slice hRl8; obtain ⟨Af, cf, rfl⟩ := Kd.R_slice hRf8; unfold JV.cells; clear hRl8 hRf8; have hN6 := (hN4.out.back hN5).mono (ok' := fun k => (fun k => (ok k ∧ k < w.heap.size) ∨ W3.heap.size ≤ k) k ∧ some k ≠ Value.ownBlock u6) (fun k hk => by rcases hk with hk | hk; exact hk; exact ⟨.inr (by have := hk4.2; omega), fun e => by have := Kd.R_lt hR4.out k e.symm; omega⟩); have hR6 := R_keptV hR4.out hN5.old; have hK6 := hk4.1.trans hN5.old; have hs6 := Nat.le_trans hk4.2 hN5.sz; have hM6 := kV.M_lower (base' := W3.heap.size) hk4.2 (Kd.M_new hM hown4.out); clear hM; replace hM6 := Aside0.mk hM6; replace hN6 := Aside0.mk hN6; replace hR6 := Aside0.mk hR6; replace hN5 := Aside0.mk hN5))
      go_roundw
      case measure => first | (simp [intOf]; done) | (simp [intOf]; omega)
      refine ⟨j + 1, vl2, vf2, ls1 ++ ls2, fs1 ++ fs2, by go_num, by omega, ?_, ?_, ?_, ?_, ?_, ?_, ?_⟩
      · rw [← List.append_assoc, ← List.append_assoc]
        exact hN6.out.grown hg7.out hat7.out (fun k hk => by have := Kd.R_base hR6.out k hk; omega) (hN6.out.tb_ne hR6.out)
      · rw [show xs.take (j + 1) = xs.take j ++ [x] by rw [List.take_add_one, hx.out, Option.toList_some]]
        exact hR7.out
      · exact ⟨hK6.grown hg7.out (fun k hk => Kd.R_base hR6.out k hk) hs6, by have := hg7.out.size; omega⟩
      · exact fun l h => by rcases List.mem_append.1 h with h | h; exact hm1 l h; exact hm2 l h
      · exact fun l h => by rcases List.mem_append.1 h with h | h; exact hf1' l h; exact hf2 l h
      · rw [List.length_append, hw2.out]; omega
      · rw [List.length_append, hw2.out]; omega
    · obtain rfl : j = nl := by omega
      have hall : xs.take j = xs := by rw [← hlenL.out, List.take_length]
      rw [hall] at hR4 hn1 hnf1
      have hno : ¬ (j : Int) < (j : Int) := by omega
      have hl12 : Aside0 ((xs ++ [mk77, mk78]).length = j + 2) := ⟨by rw [List.length_append, hlenL.out]; rfl⟩
      have hlA : Aside0 (((ls ++ ls1).length + 1) * 24 ≤ 140737488355328) := ⟨by have := hls.out; rw [List.length_append]; omega⟩
      have hN4s := Aside0.mk hN4.sz
      have hw0 := Aside0.mk hN4.w0w
      have htbw := blk_lt hN.out.blk
      have htb0 := Aside0.mk hN4.tbg
      replace hN4 := Aside0.mk hN4
      replace hR4 := Aside0.mk hR4
      clear hown4 hsum
      go_wp2_with (first | ((with_reducible refine gate_builtin (b := .append) (xs := #[.tmp 43, .tmp 45]) rfl ?_); at_builtin; refine Kd.R_append kLL (w0 := w5) w0.heap.size rfl (.tmp 43) (.tmp 45) 33 24 zL 24 rfl Tryz.underlying33 infoLV rfl (by decide) (by omega) vl1 (ls ++ ls1) (xs ++ [mk77, mk78]) [.slice (some ⟨g1, 0, none⟩) (j + 2) c1] (fun k => (ok k ∧ k < w.heap.size) ∨ W3.heap.size ≤ k) _ rfl rfl ⟨_, rfl, Kd.R_lower (R_apartL hR7.out hN8.out.rl) (by have := hw0.out; omega)⟩ (fun k hk => ⟨.inr hk.1.2, hk.2⟩) (fun k hk => .inr (by omega)) hN8.out.rl (Below.refl _ _) (by have := hw0.out; omega) hlA.out ?_; intro v2 w6 hR8 hB8 hg8 hat8; obtain ⟨n2, A2, c2, hv2⟩ : ∃ n2 A2 c2, v2 = .slice A2 n2 c2 := (by obtain ⟨A2, c2, hv⟩ := Kd.R_slice hR8; exact ⟨_, A2, c2, hv⟩); subst hv2; have hb8 := blk_grown hN8.out.blk hg8 (fun e => by obtain ⟨inn, ho⟩ := Kd.R_own hN8.out.rl; obtain ⟨cc, hcc⟩ := own_typed ho tb e.symm; rw [hN8.out.blk] at hcc; injection hcc with hcc; injection hcc with _ ht; exact absurd ht (by decide)); have hf8 := frozenAll hb8; have hc8 := cellAll hb8; obtain ⟨W9, hW9⟩ : ∃ W9, w6.setCell ⟨tb, 16, none⟩ (.slice A2 n2 c2) = W9 := ⟨_, rfl⟩; have hnew8 : ∀ k, vl1.ownBlock = some k → w0.heap.size ≤ k := fun k hk => Kd.R_base hN8.out.rl k hk; have hN9 := hN8.out.addL hR8 hg8 hnew8; have hO9 := (hN8.out.here.addL hR8 hg8 hnew8).old; have hz9 := (hN8.out.here.addL hR8 hg8 hnew8).sz; rw [hW9] at hN9 hO9 hz9; have hK9 := hK7.trans hO9; have hb9v := hK9 _ _ _ f0.out (by decide) (by decide) (by decide); have hb9r := hK9 _ _ _ f1.out (by decide) (by decide) (by decide); have hb9x := hK9 _ _ _ f2.out (by decide) (by decide) (by decide); have hc9v := cellAll hb9v; have hc9x := cellAll hb9x; have hf9x := frozenAll hb9x; have hR9 := R_keptV hR7.out hO9; obtain ⟨W10, hW10⟩ : ∃ W10, W9.setCell ⟨w.heap.size + 1 + 1, 6, none⟩ (.slice (some ⟨g1, 0, none⟩) j c1) = W10 := ⟨_, rfl⟩; have hb10v := blk_far hb9v (p := ⟨w.heap.size + 1 + 1, 6, none⟩) (by show w.heap.size ≠ w.heap.size + 1 + 1; omega) (.slice (some ⟨g1, 0, none⟩) j c1); have hb10r := blk_far hb9r (p := ⟨w.heap.size + 1 + 1, 6, none⟩) (by show w.heap.size + 1 ≠ w.heap.size + 1 + 1; omega) (.slice (some ⟨g1, 0, none⟩) j c1); have hb10x := blk_set hb9x 6 (.slice (some ⟨g1, 0, none⟩) j c1); rw [hW10] at hb10v hb10r hb10x; replace hb10x : W10.heap[w.heap.size + 1 + 1]? = some (.cells #[.int .i64 k, .bool t, .bool ng, .string ds, .int .i64 ex, .string tx, .slice (some ⟨g1, 0, none⟩) j c1, .slice none 0 0] 27 (0, 0)) := hb10x; have hc10v := cellAll hb10v; have hc10r := cellAll hb10r; have hf10r := frozenAll hb10r; have hc10x := cellAll hb10x; have hf10x := frozenAll hb10x; replace hN9 := Aside0.mk hN9; replace hR9 := Aside0.mk hR9; replace hO9 := Aside0.mk hO9; replace hb10v := Aside0.mk hb10v; replace hb10r := Aside0.mk hb10r; replace hb10x := Aside0.mk hb10x; clear hb9v hb9r hb9x hb8 hR8 hB8 hg8 hat8 hnew8) | ((with_reducible refine gate_builtin (b := .append) (xs := #[.tmp 34, .tmp 37]) rfl ?_); at_builtin; refine R_append2 kV (w0 := wr) W3.heap.size rfl (.tmp 34) (.tmp 37) 24 27 zV 112 rfl Tryz.underlying24 infoV rfl (by decide) (by omega) u6 xs mk77 mk78 [.int .i64 77, .bool false, .bool false, .string ⟨#[]⟩, .int .i64 0, .string ⟨#[]⟩, .slice none 0 0, .slice none 0 0] [.int .i64 78, .bool false, .bool false, .string ⟨#[]⟩, .int .i64 0, .string ⟨#[]⟩, .slice none 0 0, .slice none 0 0] _ rfl (fun _ => True) (fun _ => False) rfl rfl (M_mk77 _ _) (M_mk78 _ _) (fun _ h => h.elim) (fun _ _ => trivial) hR4.out (Below.refl _ _) hk4.2 ?aL ?_; (case aL => rw [hlenL.out]; omega); intro v1 w5 hR7 hB7 hg7 hat7; have hN7 := hN4.out.grown hg7 hat7 (fun k hk => by have := Kd.R_base hR4.out k hk; omega) (hN4.out.tb_ne hR4.out); have hK7 := hk4.1.grown hg7 (fun k hk => Kd.R_base hR4.out k hk) hk4.2; have hs7 : W3.heap.size ≤ w5.heap.size := Nat.le_trans hk4.2 hg7.size; obtain ⟨g1, c1, hv1, hg1b, hg1l, hc1⟩ := R_open2 hR7 (by rw [hl12.out]; omega); rw [hl12.out] at hv1 hc1; subst hv1; have hN8 := hN7.mono (ok' := (fun k => (ok k ∧ k < w.heap.size) ∨ W3.heap.size ≤ k)) (fun k hk => hk.1); have hcT := cellAll hN8.blk; replace hN8 := Aside0.mk hN8; replace hR7 := Aside0.mk hR7; clear hN7 hB7 hg7 hat7))
      have hok10 : ∀ k, ((fun k => (ok k ∧ k < w.heap.size) ∨ W3.heap.size ≤ k) k) → k ≠ w.heap.size + 1 + 1 := fun k hk => by rcases hk with hk | hk <;> omega
      have hok11 : ∀ k, ((fun k => (ok k ∧ k < w.heap.size) ∨ W3.heap.size ≤ k) k) → k ≠ w.heap.size + 1 := fun k hk => by rcases hk with hk | hk <;> omega
      have hN10 := hN9.out.set (g := w.heap.size + 1 + 1) (by omega) (by omega) hok10 6 (.slice (some ⟨g1, 0, none⟩) j c1)
      have hR10 := Kd.R_far (p := ⟨w.heap.size + 1 + 1, 6, none⟩) (Kd.R_mono (Kd.R_bound (R_prefix (xs := xs) (ys := [mk77, mk78]) (g := g1) (cap := c1) (by rw [hl12.out]; exact hR9.out))) (fun k hk => hk.2.1)) (fun k hk => by show k ≠ w.heap.size + 1 + 1; omega) (.slice (some ⟨g1, 0, none⟩) j c1)
      rw [hW10] at hN10 hR10
      rw [hlenL.out] at hR10
      have hmA : ∀ l ∈ ls1 ++ [xs ++ [mk77, mk78]], MkL l ∧ l.length ≤ 140737488355328 := fun l hl => by
        rcases List.mem_append.1 hl with hl | hl
        · exact hm1 l hl
        · rw [List.mem_singleton.1 hl]
          exact ⟨⟨xs, rfl⟩, by rw [hl12.out]; omega⟩
      rw [List.append_assoc] at hN10
      refine bodyPost_ret (v := .agg #[.int .i64 k, .bool t, .bool ng, .string ds, .int .i64 ex, .string tx, .slice (some ⟨g1, 0, none⟩) j c1, .slice none 0 0]) (by simp [results, Tryz.results35, go_sem, hc10r]) rfl ⟨[.int .i64 k, .bool t, .bool ng, .string ds, .int .i64 ex, .string tx, .slice (some ⟨g1, 0, none⟩) j c1, .slice none 0 0], rfl, ?_, .slice A2 n2 c2, vf1, ls1 ++ [xs ++ [mk77, mk78]], fs1, ?_, hmA, hf1', ?_, ?_⟩
      · obtain rfl : fs = [] := List.eq_nil_of_length_eq_zero hlenF.out
        exact kV_mkM (x := .mk k t ng ds ex tx xs []) (R_setsV (W := W3) (Kd.R_mono hR10 (fun _ _ => trivial)) (by omega) (by omega)) (R_setsG (W := W3) (R_nilF _ _ _) (by omega) (by omega))
      · refine Lnt.mono (ok := (fun k => (ok k ∧ k < w.heap.size) ∨ W3.heap.size ≤ k)) ?_ (fun k hk => by rcases hk with hk | hk; exact .inl hk.1; exact .inr (by omega))
        exact (((((((hN10.set (by omega) (by omega) hok11 _ _).set (by omega) (by omega) hok11 _ _).set (by omega) (by omega) hok11 _ _).set (by omega) (by omega) hok11 _ _).set (by omega) (by omega) hok11 _ _).set (by omega) (by omega) hok11 _ _).set (by omega) (by omega) hok11 _ _).set (by omega) (by omega) hok11 _ _
      · rw [List.length_append]; simp; omega
      · omega
end Go.Proofs.YtmfijfcikecglaaGreatDoor
end
