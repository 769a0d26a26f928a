/- (*voyageref02.Lent).Kept: what is lent is told as it was, and so is what lies behind its lists. Lists that are lent: what stays, two marks appended, a list without its marks. What is lent, under way: the block of a Lent, its two rows of rows, and what stays. (*voyageref02.Lent).Turn. -/
import Derived.Test.YtkdeleafgailhaaGreatDoorN23
import Derived.Test.YtkdeleafgailhaaGreatDoorN2
import Derived.Test.YtkdeleafgailhaaGreatDoorN26
import Derived.Deep.RegionHeld3
section
set_option linter.unusedVariables false
set_option linter.unusedSimpArgs false
namespace Go.Proofs.YtkdeleafgailhaaGreatDoor
open Go Go.RowKit Go.Proofs.YtkdeleafgailhaaGreatDoorW.PrintWords

def mk77 : JV := .mk 77 false false ⟨#[]⟩ 0 ⟨#[]⟩ [] []
def mk78 : JV := .mk 78 false false ⟨#[]⟩ 0 ⟨#[]⟩ [] []
def fm1 : JF := .mk ⟨#[35]⟩ JV.nul
def fm2 : JF := .mk ⟨#[35, 35]⟩ JV.nul
/-- A list with the marks behind it. -/
def MkL (l : List JV) : Prop := ∃ l0, l = l0 ++ [mk77, mk78]
def MkF (l : List JF) : Prop := ∃ l0, l = l0 ++ [fm1, fm2]
/-- Lists of values; lists of fields. -/
def kLL : Kd (List JV) := Kd.slice 27 kV
def kFF : Kd (List JF) := Kd.slice 69 kF
/-- A lent value in memory. -/
structure LentAt (W : World) (tb : Nat) (x : JV) (A B A2 B2 LA FA : Option Addr) (c d c2 d2 lc fc : Nat) (ls : List (List JV)) (fs : List (List JF)) : Prop where
  blk : W.heap[tb]? = some (.cells #[.int .i64 x.kind, .bool x.truth, .bool x.neg, .string x.digits, .int .i64 x.exp, .string x.text, .slice A x.list.length c, .slice B x.fields.length d, .int .i64 x.kind, .bool x.truth, .bool x.neg, .string x.digits, .int .i64 x.exp, .string x.text, .slice A2 x.list.length c2, .slice B2 x.fields.length d2, .slice LA ls.length lc, .slice FA fs.length fc] 36 (0, 0))
  kv : kV.K W x [.int .i64 x.kind, .bool x.truth, .bool x.neg, .string x.digits, .int .i64 x.exp, .string x.text, .slice A x.list.length c, .slice B x.fields.length d]
  kw : kV.K W x [.int .i64 x.kind, .bool x.truth, .bool x.neg, .string x.digits, .int .i64 x.exp, .string x.text, .slice A2 x.list.length c2, .slice B2 x.fields.length d2]
  kl : kLL.C W LA ls.length ls
  kf : kFF.C W FA fs.length fs
  ml : ∀ l ∈ ls, MkL l ∧ l.length ≤ 140737488355328
  mf : ∀ l ∈ fs, MkF l ∧ l.length ≤ 140737488355328
  sl : ls.length ≤ 140737488355328
  sf : fs.length ≤ 140737488355328
theorem LentAt.below {W W' : World} {tb : Nat} {x : JV} {A B A2 B2 LA FA : Option Addr} {c d c2 d2 lc fc : Nat} {ls : List (List JV)} {fs : List (List JF)} (h : LentAt W tb x A B A2 B2 LA FA c d c2 d2 lc fc ls fs) (hb : Below W.heap.size W W') : LentAt W' tb x A B A2 B2 LA FA c d c2 d2 lc fc ls fs :=
  ⟨(hb.block _ (blk_lt h.blk)).trans h.blk, kV.K_below hb h.kv, kV.K_below hb h.kw, Kd.C_below h.kl hb, Kd.C_below h.kf hb, h.ml, h.mf, h.sl, h.sf⟩
/-- The marks behind the j-th list. -/
theorem marks_V {W : World} {LA : Option Addr} {n : Nat} {ls : List (List JV)} (h : kLL.C W LA n ls) (hm : ∀ l ∈ ls, MkL l ∧ l.length ≤ 140737488355328) (j : Nat) (hj : j < n) : ∃ ad a m c, LA = some ad ∧ m ≤ 140737488355328 ∧ W.cell? (ad.add j) = some (.slice (some a) (m + 2) c) ∧ W.cell? (a.add (m * 8)) = some (.int .i64 77) ∧ W.cell? (a.add ((m + 1) * 8)) = some (.int .i64 78) := by
  obtain ⟨ad, cc, e, _, hK, hc0⟩ := Kd.C_get h [] (j : Int) (by omega) (by omega)
  rw [Int.toNat_natCast] at hK hc0
  have hl : j < ls.length := by rw [h.1]; exact hj
  have hg : ls.getD j [] = ls[j] := by rw [List.getD_eq_getElem?_getD, List.getElem?_eq_getElem hl]; rfl
  rw [hg] at hK
  obtain ⟨⟨l0, hl0⟩, hle⟩ := hm ls[j] (List.getElem_mem hl)
  obtain ⟨A, c, rfl, hlc, hC⟩ := hK
  rw [hl0] at hC hle
  have hlen : (l0 ++ [mk77, mk78]).length = l0.length + 2 := by simp
  rw [hlen] at hC hle
  obtain ⟨a1, x1, _, _, _, _, rfl, hx1, hcs1, _⟩ := at_V hC l0.length (by omega)
  obtain ⟨a2, x2, _, _, _, _, ea, hx2, hcs2, _⟩ := at_V hC (l0.length + 1) (by omega)
  obtain rfl := Option.some.inj ea
  have e1 : x1 = mk77 := by rw [List.getElem?_append_right (by omega), Nat.sub_self] at hx1; exact (Option.some.inj hx1).symm
  have e2 : x2 = mk78 := by rw [List.getElem?_append_right (by omega), Nat.add_sub_cancel_left] at hx2; exact (Option.some.inj hx2).symm
  subst e1 e2
  have h0 := hc0 0 _ rfl
  rw [hl0, hlen] at h0
  refine ⟨ad, a1, l0.length, c, e, by omega, ?_, hcs1.1, hcs2.1⟩
  have e9 : j * kLL.sz + 0 = j := by show j * 1 + 0 = j; omega
  rw [e9] at h0
  exact h0
theorem marks_F {W : World} {LA : Option Addr} {n : Nat} {ls : List (List JF)} (h : kFF.C W LA n ls) (hm : ∀ l ∈ ls, MkF l ∧ l.length ≤ 140737488355328) (j : Nat) (hj : j < n) : ∃ ad a m c, LA = some ad ∧ m ≤ 140737488355328 ∧ W.cell? (ad.add j) = some (.slice (some a) (m + 2) c) ∧ W.cell? (a.add (m * 9)) = some (.string ⟨#[35]⟩) ∧ W.cell? (a.add ((m + 1) * 9)) = some (.string ⟨#[35, 35]⟩) := by
  obtain ⟨ad, cc, e, _, hK, hc0⟩ := Kd.C_get h [] (j : Int) (by omega) (by omega)
  rw [Int.toNat_natCast] at hK hc0
  have hl : j < ls.length := by rw [h.1]; exact hj
  have hg : ls.getD j [] = ls[j] := by rw [List.getD_eq_getElem?_getD, List.getElem?_eq_getElem hl]; rfl
  rw [hg] at hK
  obtain ⟨⟨l0, hl0⟩, hle⟩ := hm ls[j] (List.getElem_mem hl)
  obtain ⟨A, c, rfl, hlc, hC⟩ := hK
  rw [hl0] at hC hle
  have hlen : (l0 ++ [fm1, fm2]).length = l0.length + 2 := by simp
  rw [hlen] at hC hle
  obtain ⟨a1, x1, _, _, _, _, rfl, hx1, hcs1, _⟩ := at_F hC l0.length (by omega)
  obtain ⟨a2, x2, _, _, _, _, ea, hx2, hcs2, _⟩ := at_F hC (l0.length + 1) (by omega)
  obtain rfl := Option.some.inj ea
  have e1 : x1 = fm1 := by rw [List.getElem?_append_right (by omega), Nat.sub_self] at hx1; exact (Option.some.inj hx1).symm
  have e2 : x2 = fm2 := by rw [List.getElem?_append_right (by omega), Nat.add_sub_cancel_left] at hx2; exact (Option.some.inj hx2).symm
  subst e1 e2
  have h0 := hc0 0 _ rfl
  rw [hl0, hlen] at h0
  refine ⟨ad, a1, l0.length, c, e, by omega, ?_, hcs1.1, hcs2.1⟩
  have e9 : j * kFF.sz + 0 = j := by show j * 1 + 0 = j; omega
  rw [e9] at h0
  exact h0

set_option maxRecDepth 100000 in
set_option maxHeartbeats 8000000 in
/-- **(*Lent).Kept.** -/
theorem kept_any (w : World) (tb : Nat) (x : JV) (A B A2 B2 LA FA : Option Addr) (c d c2 d2 lc fc : Nat) (ls : List (List JV)) (fs : List (List JF)) (h : LentAt w tb x A B A2 B2 LA FA c d c2 d2 lc fc ls fs) :
    Calls Tryz.prog 13 #[.pointer (some ⟨tb, 0, none⟩)] w fun e w' => e = .returned (.bool true) ∧ Below w.heap.size w w' := by
  have hSof : ∀ W', Below w.heap.size w W' → W'.cell? ⟨tb, 0, none⟩ = some (.int .i64 x.kind) ∧ W'.cell? ⟨tb, 1, none⟩ = some (.bool x.truth) ∧ W'.cell? ⟨tb, 2, none⟩ = some (.bool x.neg) ∧ W'.cell? ⟨tb, 3, none⟩ = some (.string x.digits) ∧ W'.cell? ⟨tb, 4, none⟩ = some (.int .i64 x.exp) ∧ W'.cell? ⟨tb, 5, none⟩ = some (.string x.text) ∧ W'.cell? ⟨tb, 6, none⟩ = some (.slice A x.list.length c) ∧ W'.cell? ⟨tb, 7, none⟩ = some (.slice B x.fields.length d) ∧ W'.cell? ⟨tb, 8, none⟩ = some (.int .i64 x.kind) ∧ W'.cell? ⟨tb, 9, none⟩ = some (.bool x.truth) ∧ W'.cell? ⟨tb, 10, none⟩ = some (.bool x.neg) ∧ W'.cell? ⟨tb, 11, none⟩ = some (.string x.digits) ∧ W'.cell? ⟨tb, 12, none⟩ = some (.int .i64 x.exp) ∧ W'.cell? ⟨tb, 13, none⟩ = some (.string x.text) ∧ W'.cell? ⟨tb, 14, none⟩ = some (.slice A2 x.list.length c2) ∧ W'.cell? ⟨tb, 15, none⟩ = some (.slice B2 x.fields.length d2) := fun W' hb => by
    have k1 := cellAll (h.below hb).blk
    exact ⟨k1 0, k1 1, k1 2, k1 3, k1 4, k1 5, k1 6, k1 7, k1 8, k1 9, k1 10, k1 11, k1 12, k1 13, k1 14, k1 15⟩
  have hS0 := hSof w (Below.refl _ _)
  have hbd := (Below.refl w.heap.size w).drew
  have hS1 := hSof _ hbd
  have hsl := h.sl
  have hsf := h.sf
  have h0 := Aside0.mk h
  clear h
  go_enter Tryz.func13, Tryz.ntmps13
  go_wp2_with fail
  go_region_held3 (fun W' => W'.cell? ⟨tb, 0, none⟩ = some (.int .i64 x.kind) ∧ W'.cell? ⟨tb, 1, none⟩ = some (.bool x.truth) ∧ W'.cell? ⟨tb, 2, none⟩ = some (.bool x.neg) ∧ W'.cell? ⟨tb, 3, none⟩ = some (.string x.digits) ∧ W'.cell? ⟨tb, 4, none⟩ = some (.int .i64 x.exp) ∧ W'.cell? ⟨tb, 5, none⟩ = some (.string x.text) ∧ W'.cell? ⟨tb, 6, none⟩ = some (.slice A x.list.length c) ∧ W'.cell? ⟨tb, 7, none⟩ = some (.slice B x.fields.length d) ∧ W'.cell? ⟨tb, 8, none⟩ = some (.int .i64 x.kind) ∧ W'.cell? ⟨tb, 9, none⟩ = some (.bool x.truth) ∧ W'.cell? ⟨tb, 10, none⟩ = some (.bool x.neg) ∧ W'.cell? ⟨tb, 11, none⟩ = some (.string x.digits) ∧ W'.cell? ⟨tb, 12, none⟩ = some (.int .i64 x.exp) ∧ W'.cell? ⟨tb, 13, none⟩ = some (.string x.text) ∧ W'.cell? ⟨tb, 14, none⟩ = some (.slice A2 x.list.length c2) ∧ W'.cell? ⟨tb, 15, none⟩ = some (.slice B2 x.fields.length d2)) (first | exact hS0 | exact hS1 | exact hS2 | (simp [*]; done))
    (first
      | (go_at_call 17; refine (like_same x _ _ _ (h0.out.below hbd).kv (h0.out.below hbd).kw).mono ?_; rintro e w2 ⟨rfl, hb2'⟩; have hb2 := hbd.trans (hb2'.mono hbd.size); have hS2 := hSof _ hb2))
  all_goals (have h2 := Aside0.mk (h0.out.below hb2))
  all_goals (have hb20 := Aside0.mk hb2)
  all_goals (clear hS0 hS1 hS2 hSof hb2' hb2 hbd h0)
  all_goals (go_wp2_with fail)
  go_loopw [4] (fun i wr => ∃ j : Nat, i = .int .i64 j ∧ j ≤ ls.length ∧ Below w2.heap.size w2 wr) (fun i _ => ls.length - (intOf i).toNat)
  case atStart => exact ⟨0, rfl, Nat.zero_le _, Below.refl _ _⟩
  case round =>
    obtain ⟨j, rfl, hj, hB⟩ := hrel
    have hr := h2.out.below hB
    have hcr := cellAll hr.blk
    by_cases hlt : j < ls.length
    · have hlt2 : (j : Int) < (ls.length : Int) := by omega
      obtain ⟨ad, a, m, cc, rfl, hm, q0, q1, q2⟩ := marks_V hr.kl hr.ml j hlt
      have hw1 : IntKind.i64.wrap ((m : Int) + 2 - 2) = (m : Int) := by rw [IntKind.wrap_i64]; omega
      have hw2 : IntKind.i64.wrap ((m : Int) + 2 - 1) = (m : Int) + 1 := by rw [IntKind.wrap_i64]; omega
      have hm0 : (0 : Int) ≤ (m : Int) + 1 := by omega
      have hm1 : (m : Int) + 1 < (m : Int) + 2 := by omega
      have hm2 : (m : Int) < (m : Int) + 2 := by omega
      have hm3 : ((m : Int) + 1).toNat = m + 1 := by omega
      replace hr := Aside0.mk hr
      go_wp2_with fail
      go_roundw
      case rel => exact ⟨j + 1, by go_num, by omega, hB⟩
      case measure => simp [intOf]; omega
    · obtain rfl : j = ls.length := by omega
      have hno : ¬ ((ls.length : Nat) : Int) < ((ls.length : Nat) : Int) := by omega
      replace hr := Aside0.mk hr
      go_wp2_with fail
      go_loopw [6] (fun i wr2 => ∃ j : Nat, i = .int .i64 j ∧ j ≤ fs.length ∧ Below w2.heap.size w2 wr2) (fun i _ => fs.length - (intOf i).toNat)
      case atStart => exact ⟨0, rfl, Nat.zero_le _, hB⟩
      case round =>
        clear hcr hr
        obtain ⟨j, rfl, hj, hB2⟩ := hrel
        have hr := h2.out.below hB2
        have hcr := cellAll hr.blk
        by_cases hlt : j < fs.length
        · have hlt2 : (j : Int) < (fs.length : Int) := by omega
          obtain ⟨ad, a, m, cc, rfl, hm, q0, q1, q2⟩ := marks_F hr.kf hr.mf j hlt
          have hw1 : IntKind.i64.wrap ((m : Int) + 2 - 2) = (m : Int) := by rw [IntKind.wrap_i64]; omega
          have hw2 : IntKind.i64.wrap ((m : Int) + 2 - 1) = (m : Int) + 1 := by rw [IntKind.wrap_i64]; omega
          have hm0 : (0 : Int) ≤ (m : Int) + 1 := by omega
          have hm1 : (m : Int) + 1 < (m : Int) + 2 := by omega
          have hm2 : (m : Int) < (m : Int) + 2 := by omega
          have hm3 : ((m : Int) + 1).toNat = m + 1 := by omega
          replace hr := Aside0.mk hr
          go_wp2_with fail
          go_roundw
          case rel => exact ⟨j + 1, by go_num, by omega, hB2⟩
          case measure => simp [intOf]; omega
        · obtain rfl : j = fs.length := by omega
          have hno : ¬ ((fs.length : Nat) : Int) < ((fs.length : Nat) : Int) := by omega
          replace hr := Aside0.mk hr
          go_wp2_with fail
          go_ret
          exact ⟨rfl, hb20.out.trans (hB2.mono hb20.out.size)⟩
end Go.Proofs.YtkdeleafgailhaaGreatDoor
end
section
set_option linter.unusedVariables false
set_option linter.unusedSimpArgs false
namespace Go.Proofs.YtkdeleafgailhaaGreatDoor
open Go Go.RowKit Go.Proofs.YtkdeleafgailhaaGreatDoorW.PrintWords

/-- All blocks that were there stay, but those of lists of lists and of what is lent. -/
def KeptOld (w w' : World) : Prop := ∀ (b : Nat) (cs : Array Value) (q : TypeId), w.heap[b]? = some (.cells cs q (0, 0)) → q ≠ 36 → q ≠ 24 → q ≠ 25 → w'.heap[b]? = some (.cells cs q (0, 0))
theorem KeptOld.refl (w : World) : KeptOld w w := fun _ _ _ h _ _ _ => h
theorem KeptOld.trans {a b c : World} (h : KeptOld a b) (k : KeptOld b c) : KeptOld a c := fun i cs q hi h1 h2 h3 => k i cs q (h i cs q hi h1 h2 h3) h1 h2 h3
theorem KeptOld.of_below {a b : World} (h : Below a.heap.size a b) : KeptOld a b := fun i cs q hi _ _ _ => (h.block i (blk_lt hi)).trans hi
theorem EV_kept {q : Nat} (h : q ∈ EV) : q ≠ 36 ∧ q ≠ 24 ∧ q ≠ 25 := by
  unfold EV at h
  simp only [List.mem_cons, List.not_mem_nil, or_false] at h
  rcases h with rfl | rfl <;> decide
theorem kF_Ein {q : Nat} (h : q ∈ kF.E) : q ∈ EV := by
  have h2 : q ∈ (kFof kV).E := h
  exact subF kV (fun _ h => h) q h2
theorem rowV_E {q : Nat} (h : q ∈ 27 :: kV.E) : q ∈ EV := by
  rcases List.mem_cons.1 h with rfl | h
  · exact .head _
  · exact h
theorem rowF_E {q : Nat} (h : q ∈ 69 :: kF.E) : q ∈ EV := by
  rcases List.mem_cons.1 h with rfl | h
  · exact .tail _ (.head _)
  · exact kF_Ein h
section
variable {w w1 : World} {base : Nat} {ok : Nat → Prop} {v : Value}
/-- What a row of values or fields reaches stays. -/
theorem R_keptV {xs : List JV} (h : kV.R 27 w base ok v xs) (hk : KeptOld w w1) : kV.R 27 w1 base ok v xs :=
  Kd.R_mono (Kd.R_step (Kd.R_bound h) (fun k hk' _ => by
    obtain ⟨_, _, _, q, hq, cells, hc⟩ := hk'
    obtain ⟨h1, h2, h3⟩ := EV_kept (rowV_E hq)
    rw [hk k cells q hc h1 h2 h3, hc])) (fun _ h => h.1)
theorem R_keptF {xs : List JF} (h : kF.R 69 w base ok v xs) (hk : KeptOld w w1) : kF.R 69 w1 base ok v xs :=
  Kd.R_mono (Kd.R_step (Kd.R_bound h) (fun k hk' _ => by
    obtain ⟨_, _, _, q, hq, cells, hc⟩ := hk'
    obtain ⟨h1, h2, h3⟩ := EV_kept (rowF_E hq)
    rw [hk k cells q hc h1 h2 h3, hc])) (fun _ h => h.1)
end
/-- A row without its last elements. -/
theorem R_prefix {α : Type} {d : Kd α} {e : Nat} {w : World} {base g cap : Nat} {ok : Nat → Prop} {xs ys : List α} (h : d.R e w base ok (.slice (some ⟨g, 0, none⟩) (xs ++ ys).length cap) (xs ++ ys)) : d.R e w base ok (.slice (some ⟨g, 0, none⟩) xs.length cap) xs := by
  obtain ⟨h0, inner, ho, hr⟩ := h
  have hle : xs.length ≤ (xs ++ ys).length := by rw [List.length_append]; omega
  have hmul : xs.length * d.sz ≤ (xs ++ ys).length * d.sz := Nat.mul_le_mul_right _ hle
  refine ⟨h0, inner.take (xs.length * d.sz), ?_, ?_⟩
  · obtain ⟨hl, ho⟩ := ho
    refine ⟨by rw [List.length_take, hl]; omega, ?_⟩
    rcases ho with ⟨hv, _⟩ | ⟨g', cap', cur, hv, hb, hh, hn, hc, hs, ht⟩
    · cases hv
    · injection hv with e1 _ e2
      injection e1 with e1
      injection e1 with e1
      subst e1 e2
      refine .inr ⟨g, cap, cur, rfl, hb, hh, by omega, hc, hs, ?_⟩
      rw [← ht, List.take_take, Nat.min_eq_left hmul]
  · refine ⟨by rw [List.length_take, hr.1]; exact Nat.min_eq_left hmul, fun j p hj => ?_⟩
    have hjx := (List.getElem?_eq_some_iff.1 hj).1
    have h2 := hr.2 j p (by rw [List.getElem?_append_left hjx]; exact hj)
    have e9 : (inner.take (xs.length * d.sz)).drop (j * d.sz) = (inner.drop (j * d.sz)).take (xs.length * d.sz - j * d.sz) := List.drop_take
    rw [e9, List.take_take]
    have h3 : (j + 1) * d.sz ≤ xs.length * d.sz := Nat.mul_le_mul_right _ hjx
    rw [Nat.add_mul, Nat.one_mul] at h3
    rw [Nat.min_eq_left (by omega)]
    exact h2
section
variable {P : Program} {ops : Array Oper} {rest : List Oper} {o : Oper} {a : Act} {Q : Exit → Act → World → Prop} {α : Type}
/-- append(v, x, y). -/
theorem R_append2 (d : Kd α) {w0 W : World} (base : Nat) (hgd : o.guard = none) (s x : Operand) (t e : TypeId) (z : Value) (bytes : Nat)
    (ho : o.op = .call { callee := .builtin .append, args := #[s, x], argTypes := #[t, t] })
    (ht : P.underlying t = some (.slice e)) (hinfo : (P.info? e).map (fun i => (i.zero, i.size, i.bytes)) = some (some z, d.sz, bytes)) (hz : z.cells.size = d.sz) (hs0 : 0 < d.sz) (hb0 : 0 < bytes)
    (v : Value) (xs : List α) (p1 p2 : α) (cs1 cs2 : List Value) (cells : Array Value) (hcl : cells = (cs1 ++ cs2).toArray) (ok okp : Nat → Prop) (hs : a.eval s = v) (hx : a.eval x = .slice (some ⟨W.heap.size, 0, none⟩) 2 2) (hp1 : d.M W base okp p1 cs1) (hp2 : d.M W base okp p2 cs2) (hokp : ∀ k, okp k → ok k ∧ some k ≠ v.ownBlock) (hfresh : ∀ k, W.heap.size ≤ k → ok k)
    (HO : d.R e W base ok v xs) (HB : Below base w0 W) (hbase : base ≤ W.heap.size) (hl : (xs.length + 2) * bytes ≤ 140737488355328)
    (h : ∀ v1 w1, d.R e w1 base ok v1 (xs ++ [p1, p2]) → Below base w0 w1 → W.grownBy w1 v.ownBlock → (v1.ownBlock = v.ownBlock ∨ ∃ b, v1.ownBlock = some b ∧ W.heap.size ≤ b) → wpList P ops Q rest (a.put o.dst v1) w1) :
    wpList P ops Q (o :: rest) a (W.alloc (.cells cells e)) := by
  subst hcl
  obtain ⟨h0, inner, hown, hr⟩ := HO
  obtain ⟨i0, hi, hzz⟩ := Option.map_eq_some_iff.1 hinfo
  simp only [Prod.mk.injEq] at hzz
  obtain ⟨hz0, hz1, hz2⟩ := hzz
  have hlen : xs.length + 2 ≤ 140737488355328 := Nat.le_trans (Nat.le_mul_of_pos_right _ hb0) hl
  have l1 := d.K_len (d.K_of_M hp1)
  have l2 := d.K_len (d.K_of_M hp2)
  refine wpList_append_own_at (W.alloc (.cells (cs1 ++ cs2).toArray e)) hgd s x t ho base e i0 z d.sz bytes ht hi hz0 hz1 hz2 hz hs0 v xs.length inner hs (hown.alloc _) ⟨W.heap.size, 0, none⟩ 2 2 (cs1 ++ cs2) hx (by rw [List.length_append, l1, l2]; omega)
    (by simpa using World.news_of_block (cs := (cs1 ++ cs2).toArray) (t := e) (fr := (0, 0)) (heap_alloc_new W (.cells (cs1 ++ cs2).toArray e)))
    (by
      intro u hu
      rcases List.mem_append.1 hu with hu | hu
      · exact d.K_one (d.K_of_M hp1) u hu
      · exact d.K_one (d.K_of_M hp2) u hu) (by simp only [maxLen]; omega) hl (by simp; omega) ?_
  intro v1 w1 hown1 hg' _ hat'
  have hg := World.grownBy.trans (World.grownBy_alloc W (.cells (cs1 ++ cs2).toArray e) v.ownBlock) hg'
  have hat : v1.ownBlock = v.ownBlock ∨ ∃ b, v1.ownBlock = some b ∧ W.heap.size ≤ b := by
    rcases hat' with hat | hat
    · exact .inl hat
    · exact .inr ⟨_, hat, by simp⟩
  refine h v1 w1 ?_ ((HB.alloc hbase _).grown hg' (by simp; omega) (own_base hown)) hg hat
  have hne : ∀ k, some k ≠ v.ownBlock → k < W.heap.size → some k ≠ v1.ownBlock := by
    intro k hk hlt
    rcases hat with hat | ⟨b, hb, hle⟩
    · rw [hat]; exact hk
    · rw [hb]
      intro he
      injection he with he
      omega
  have step : ∀ {q : α} {c : List Value} {o : Nat → Prop}, d.M W base o q c → (∀ k, o k → ok k ∧ some k ≠ v.ownBlock) → d.M w1 base (fun k => ok k ∧ some k ≠ v1.ownBlock) q c := by
    intro q c o hq ho
    have h1 := d.M_move (w1 := w1) (fun k hk => hg.block k hk.2.2.1 (ho k hk.1).2) (d.M_bound hq)
    exact d.M_mono (fun k hk => ⟨(ho k hk.1).1, hne k (ho k hk.1).2 hk.2.2.1⟩) h1
  refine ⟨fun k hk => ?_, inner ++ (cs1 ++ cs2), by rw [List.length_append]; exact hown1, ?_⟩
  · rcases hat with hat | ⟨b, hb, hle⟩
    · exact h0 k (hat ▸ hk)
    · rw [hb] at hk
      injection hk with hk
      exact hfresh k (by omega)
  · have h2 := ((hr.imp_ (fun _ _ hq => step hq (fun _ hk => hk))).snoc (step hp1 hokp) l1).snoc (step hp2 hokp) l2
    rw [List.append_assoc, List.append_assoc] at h2
    exact h2
end
theorem M_mk77 (w : World) (base : Nat) : kV.M w base (fun _ => False) mk77 [.int .i64 77, .bool false, .bool false, .string ⟨#[]⟩, .int .i64 0, .string ⟨#[]⟩, .slice none 0 0, .slice none 0 0] := kV_mkM (x := mk77) (Kd.R_nil _ _ _ _ _) (Kd.R_nil _ _ _ _ _)
theorem M_mk78 (w : World) (base : Nat) : kV.M w base (fun _ => False) mk78 [.int .i64 78, .bool false, .bool false, .string ⟨#[]⟩, .int .i64 0, .string ⟨#[]⟩, .slice none 0 0, .slice none 0 0] := kV_mkM (x := mk78) (Kd.R_nil _ _ _ _ _) (Kd.R_nil _ _ _ _ _)
theorem M_fm (w : World) (base : Nat) (s : ByteArray) : kF.M w base (fun _ => False) (.mk s JV.nul) [.string s, .int .i64 0, .bool false, .bool false, .string ⟨#[]⟩, .int .i64 0, .string ⟨#[]⟩, .slice none 0 0, .slice none 0 0] := ⟨[.string s], _, rfl, rfl, kV_mkM (x := JV.nul) (Kd.R_nil _ _ _ _ _) (Kd.R_nil _ _ _ _ _)⟩
def zL : Value := .slice none 0 0
theorem infoLV : (Tryz.prog.info? 24).map (fun i => (i.zero, i.size, i.bytes)) = some (some zL, 1, 24) := by kernel_rfl
theorem infoLF : (Tryz.prog.info? 25).map (fun i => (i.zero, i.size, i.bytes)) = some (some zL, 1, 24) := by kernel_rfl
end Go.Proofs.YtkdeleafgailhaaGreatDoor
end
section
set_option linter.unusedVariables false
set_option linter.unusedSimpArgs false
namespace Go.Proofs.YtkdeleafgailhaaGreatDoor
open Go Go.RowKit Go.Proofs.YtkdeleafgailhaaGreatDoorW.PrintWords

theorem KeptOld.grown {a b c : World} (h : KeptOld a b) {row : Option Nat} (hg : b.grownBy c row) (hr : ∀ k, row = some k → a.heap.size ≤ k) (hs : a.heap.size ≤ b.heap.size) : KeptOld a c := fun i cs q hi h1 h2 h3 => by
  have hlt := blk_lt hi
  exact (hg.block i (by omega) (fun e => by have := hr i e.symm; omega)).trans (h i cs q hi h1 h2 h3)
theorem KeptOld.set {a b : World} (h : KeptOld a b) {g j : Nat} (hg : a.heap.size ≤ g) (u : Value) : KeptOld a (b.setCell ⟨g, j, none⟩ u) := fun i cs q hi h1 h2 h3 => by
  have hlt := blk_lt hi
  rw [Below.heap_setCell b ⟨g, j, none⟩ u i (by show i ≠ g; omega)]
  exact h i cs q hi h1 h2 h3
/-- A Lent's block tb at W, in a call that began at w (its lent values lie in w0); the rows' footprints satisfy ok. -/
structure Lnt (w0 w W : World) (tb : Nat) (P : Nat → Value) (ok : Nat → Prop) (vl vf : Value) (ls : List (List JV)) (fs : List (List JF)) : Prop where
  blk : W.heap[tb]? = some (.cells #[P 0, P 1, P 2, P 3, P 4, P 5, P 6, P 7, P 8, P 9, P 10, P 11, P 12, P 13, P 14, P 15, vl, vf] 36 (0, 0))
  rl : kLL.R 24 W w0.heap.size ok vl ls
  rf : kFF.R 25 W w0.heap.size ok vf fs
  low : Below w0.heap.size w0 W
  old : KeptOld w W
  sz : w.heap.size ≤ W.heap.size
  tbg : w0.heap.size ≤ tb
  w0w : w0.heap.size ≤ w.heap.size
section
variable {w0 w W W' : World} {tb : Nat} {P : Nat → Value} {ok ok' : Nat → Prop} {vl vf : Value} {ls : List (List JV)} {fs : List (List JF)}
theorem Lnt.mono (h : Lnt w0 w W tb P ok vl vf ls fs) (hk : ∀ k, ok k → ok' k) : Lnt w0 w W tb P ok' vl vf ls fs := ⟨h.blk, Kd.R_mono h.rl hk, Kd.R_mono h.rf hk, h.low, h.old, h.sz, h.tbg, h.w0w⟩
/-- All footprints lie below the world's size. -/
theorem Lnt.bound (h : Lnt w0 w W tb P ok vl vf ls fs) : Lnt w0 w W tb P (fun k => ok k ∧ k < W.heap.size) vl vf ls fs := ⟨h.blk, Kd.R_mono (Kd.R_bound h.rl) (fun k hk => ⟨hk.1, hk.2.2.1⟩), Kd.R_mono (Kd.R_bound h.rf) (fun k hk => ⟨hk.1, hk.2.2.1⟩), h.low, h.old, h.sz, h.tbg, h.w0w⟩
theorem Lnt.below (h : Lnt w0 w W tb P ok vl vf ls fs) (hb : Below W.heap.size W W') : Lnt w0 w W' tb P ok vl vf ls fs :=
  ⟨(hb.block _ (blk_lt h.blk)).trans h.blk, Kd.R_below h.rl hb, Kd.R_below h.rf hb, h.low.trans (hb.mono h.low.size), h.old.trans (KeptOld.of_below hb), Nat.le_trans h.sz hb.size, h.tbg, h.w0w⟩
/-- The call that begins here. -/
theorem Lnt.here (h : Lnt w0 w W tb P ok vl vf ls fs) : Lnt w0 W W tb P ok vl vf ls fs := ⟨h.blk, h.rl, h.rf, h.low, KeptOld.refl W, Nat.le_refl _, h.tbg, Nat.le_trans h.w0w h.sz⟩
theorem Lnt.back {vl' vf' : Value} {ls' : List (List JV)} {fs' : List (List JF)} (h : Lnt w0 w W tb P ok vl vf ls fs) (h' : Lnt w0 W W' tb P ok' vl' vf' ls' fs') : Lnt w0 w W' tb P ok' vl' vf' ls' fs' := ⟨h'.blk, h'.rl, h'.rf, h'.low, h.old.trans h'.old, Nat.le_trans h.sz h'.sz, h.tbg, h.w0w⟩
/-- A row of one's own grows. -/
theorem Lnt.grown {v v1 : Value} (h : Lnt w0 w W tb P (fun k => ok k ∧ some k ≠ v.ownBlock) vl vf ls fs) (hg : W.grownBy W' v.ownBlock) (hat : v1.ownBlock = v.ownBlock ∨ ∃ b, v1.ownBlock = some b ∧ W.heap.size ≤ b) (hnew : ∀ k, v.ownBlock = some k → w.heap.size ≤ k) (htb : some tb ≠ v.ownBlock) : Lnt w0 w W' tb P (fun k => ok k ∧ some k ≠ v1.ownBlock) vl vf ls fs :=
  ⟨blk_grown h.blk hg htb, Kd.R_after h.rl hg hat, Kd.R_after h.rf hg hat, h.low.grown hg h.low.size (fun k hk => Nat.le_trans h.w0w (hnew k hk)), h.old.grown hg hnew h.sz, Nat.le_trans h.sz hg.size, h.tbg, h.w0w⟩
/-- A store elsewhere. -/
theorem Lnt.set (h : Lnt w0 w W tb P ok vl vf ls fs) {g : Nat} (hg : w.heap.size ≤ g) (hne : tb ≠ g) (hok : ∀ k, ok k → k ≠ g) (j : Nat) (u : Value) : Lnt w0 w (W.setCell ⟨g, j, none⟩ u) tb P ok vl vf ls fs :=
  ⟨(Below.heap_setCell W ⟨g, j, none⟩ u tb hne).trans h.blk, Kd.R_far h.rl hok u, Kd.R_far h.rf hok u, h.low.setCell (by show w0.heap.size ≤ g; have := h.w0w; omega) u, h.old.set hg u, by rw [World.size_setCell]; exact h.sz, h.tbg, h.w0w⟩
/-- A list is added to the lists. -/
theorem Lnt.addL {vl1 : Value} {l : List JV} (h : Lnt w0 w W tb P ok vl vf ls fs) (hr : kLL.R 24 W' w0.heap.size ok vl1 (ls ++ [l])) (hg : W.grownBy W' vl.ownBlock) (hnew : ∀ k, vl.ownBlock = some k → w0.heap.size ≤ k) : Lnt w0 w (W'.setCell ⟨tb, 16, none⟩ vl1) tb P ok vl1 vf (ls ++ [l]) fs := by
  have hty : ∀ k, vl.ownBlock = some k → ∃ cells, W.heap[k]? = some (.cells cells 24 (0, 0)) := fun k hk => by
    obtain ⟨inner, ho⟩ := Kd.R_own h.rl
    exact own_typed ho k hk
  have htb : some tb ≠ vl.ownBlock := fun e => by
    obtain ⟨cells, hc⟩ := hty tb e.symm
    rw [h.blk] at hc
    injection hc with hc
    injection hc with _ ht
    exact absurd ht (by decide)
  have hblk := blk_grown h.blk hg htb
  have hrf := Kd.R_over h.rf h.rl (fun q hq => by
    have hq' : q ∈ 25 :: 69 :: kF.E := hq
    rcases List.mem_cons.1 hq' with rfl | hq'
    · decide
    · exact (EV_kept (rowF_E hq')).2.1) hg
  have hLE : ∀ q, q ∈ 24 :: kLL.E → q ≠ 36 := fun q hq => by
    have hq' : q ∈ 24 :: 27 :: kV.E := hq
    rcases List.mem_cons.1 hq' with rfl | hq'
    · decide
    · exact (EV_kept (rowV_E hq')).1
  have hFE : ∀ q, q ∈ 25 :: kFF.E → q ≠ 36 := fun q hq => by
    have hq' : q ∈ 25 :: 69 :: kF.E := hq
    rcases List.mem_cons.1 hq' with rfl | hq'
    · decide
    · exact (EV_kept (rowF_E hq')).1
  refine ⟨blk_set hblk 16 vl1, Kd.R_set hr hblk hLE 16 vl1, Kd.R_set hrf hblk hFE 16 vl1, (h.low.grown hg h.low.size hnew).setCell h.tbg vl1, ?_, by rw [World.size_setCell]; exact Nat.le_trans h.sz hg.size, h.tbg, h.w0w⟩
  intro i cs q hi h1 h2 h3
  have hW := h.old i cs q hi h1 h2 h3
  have hne1 : some i ≠ vl.ownBlock := fun e => by
    obtain ⟨cells, hc⟩ := hty i e.symm
    rw [hW] at hc
    injection hc with hc
    injection hc with _ ht
    exact h2 ht
  have hne2 : i ≠ tb := by
    rintro rfl
    rw [h.blk] at hW
    injection hW with hW
    injection hW with _ ht
    exact h1 ht.symm
  rw [Below.heap_setCell W' ⟨tb, 16, none⟩ vl1 i hne2]
  exact blk_grown hW hg hne1
theorem Lnt.addF {vf1 : Value} {l : List JF} (h : Lnt w0 w W tb P ok vl vf ls fs) (hr : kFF.R 25 W' w0.heap.size ok vf1 (fs ++ [l])) (hg : W.grownBy W' vf.ownBlock) (hnew : ∀ k, vf.ownBlock = some k → w0.heap.size ≤ k) : Lnt w0 w (W'.setCell ⟨tb, 17, none⟩ vf1) tb P ok vl vf1 ls (fs ++ [l]) := by
  have hty : ∀ k, vf.ownBlock = some k → ∃ cells, W.heap[k]? = some (.cells cells 25 (0, 0)) := fun k hk => by
    obtain ⟨inner, ho⟩ := Kd.R_own h.rf
    exact own_typed ho k hk
  have htb : some tb ≠ vf.ownBlock := fun e => by
    obtain ⟨cells, hc⟩ := hty tb e.symm
    rw [h.blk] at hc
    injection hc with hc
    injection hc with _ ht
    exact absurd ht (by decide)
  have hblk := blk_grown h.blk hg htb
  have hrl := Kd.R_over h.rl h.rf (fun q hq => by
    have hq' : q ∈ 24 :: 27 :: kV.E := hq
    rcases List.mem_cons.1 hq' with rfl | hq'
    · decide
    · exact (EV_kept (rowV_E hq')).2.2) hg
  have hLE : ∀ q, q ∈ 24 :: kLL.E → q ≠ 36 := fun q hq => by
    have hq' : q ∈ 24 :: 27 :: kV.E := hq
    rcases List.mem_cons.1 hq' with rfl | hq'
    · decide
    · exact (EV_kept (rowV_E hq')).1
  have hFE : ∀ q, q ∈ 25 :: kFF.E → q ≠ 36 := fun q hq => by
    have hq' : q ∈ 25 :: 69 :: kF.E := hq
    rcases List.mem_cons.1 hq' with rfl | hq'
    · decide
    · exact (EV_kept (rowF_E hq')).1
  refine ⟨blk_set hblk 17 vf1, Kd.R_set hrl hblk hLE 17 vf1, Kd.R_set hr hblk hFE 17 vf1, (h.low.grown hg h.low.size hnew).setCell h.tbg vf1, ?_, by rw [World.size_setCell]; exact Nat.le_trans h.sz hg.size, h.tbg, h.w0w⟩
  intro i cs q hi h1 h2 h3
  have hW := h.old i cs q hi h1 h2 h3
  have hne1 : some i ≠ vf.ownBlock := fun e => by
    obtain ⟨cells, hc⟩ := hty i e.symm
    rw [hW] at hc
    injection hc with hc
    injection hc with _ ht
    exact h3 ht
  have hne2 : i ≠ tb := by
    rintro rfl
    rw [h.blk] at hW
    injection hW with hW
    injection hW with _ ht
    exact h1 ht.symm
  rw [Below.heap_setCell W' ⟨tb, 17, none⟩ vf1 i hne2]
  exact blk_grown hW hg hne1
/-- A row of values is apart from a row of rows. -/
theorem R_apartL {base : Nat} {v : Value} {xs : List JV} (h : kV.R 27 W base ok v xs) (hu : kLL.R 24 W w0.heap.size ok' vl ls) : kV.R 27 W base (fun k => (ok k ∧ base ≤ k) ∧ some k ≠ vl.ownBlock) v xs :=
  Kd.R_mono (Kd.R_bound h) (fun k hk => ⟨⟨hk.1, hk.2.1⟩, fun e => by
    obtain ⟨_, _, _, q, hq, cells, hc⟩ := hk
    obtain ⟨inner, ho⟩ := Kd.R_own hu
    obtain ⟨cells', hc'⟩ := own_typed ho k e.symm
    rw [hc] at hc'
    injection hc' with hc'
    injection hc' with _ ht
    exact (EV_kept (rowV_E hq)).2.1 ht⟩)
theorem R_apartF {base : Nat} {v : Value} {xs : List JF} (h : kF.R 69 W base ok v xs) (hu : kFF.R 25 W w0.heap.size ok' vf fs) : kF.R 69 W base (fun k => (ok k ∧ base ≤ k) ∧ some k ≠ vf.ownBlock) v xs :=
  Kd.R_mono (Kd.R_bound h) (fun k hk => ⟨⟨hk.1, hk.2.1⟩, fun e => by
    obtain ⟨_, _, _, q, hq, cells, hc⟩ := hk
    obtain ⟨inner, ho⟩ := Kd.R_own hu
    obtain ⟨cells', hc'⟩ := own_typed ho k e.symm
    rw [hc] at hc'
    injection hc' with hc'
    injection hc' with _ ht
    exact (EV_kept (rowF_E hq)).2.2 ht⟩)
/-- tb is no row of values'. -/
theorem Lnt.tb_ne {base : Nat} {v : Value} {xs : List JV} (h : Lnt w0 w W tb P ok vl vf ls fs) (hr : kV.R 27 W base ok' v xs) : some tb ≠ v.ownBlock := Kd.R_ne hr h.blk (by decide)
theorem Lnt.tb_neF {base : Nat} {v : Value} {xs : List JF} (h : Lnt w0 w W tb P ok vl vf ls fs) (hr : kF.R 69 W base ok' v xs) : some tb ≠ v.ownBlock := Kd.R_ne hr h.blk (by decide)
end
def MarkOK (x : JV) : Prop := ∀ (w0 w : World) (tb : Nat) (P : Nat → Value) (ok : Nat → Prop) (vl vf : Value) (ls : List (List JV)) (fs : List (List JF)) (cs : List Value), kV.K w0 x cs → Lnt w0 w w tb P ok vl vf ls fs → x.wt ≤ 4294967296 → ls.length + x.wt ≤ 1099511627776 → fs.length + x.wt ≤ 1099511627776 →
  Calls Tryz.prog 32 #[.pointer (some ⟨tb, 0, none⟩), .agg cs.toArray] w fun e w' => ∃ cs' vl' vf' ls' fs', e = .returned (.agg cs'.toArray) ∧ kV.M w' w.heap.size (fun _ => True) x cs' ∧ Lnt w0 w w' tb P (fun k => ok k ∨ w.heap.size ≤ k) vl' vf' (ls ++ ls') (fs ++ fs') ∧ (∀ l ∈ ls', MkL l ∧ l.length ≤ 140737488355328) ∧ (∀ l ∈ fs', MkF l ∧ l.length ≤ 140737488355328) ∧ ls'.length ≤ x.wt ∧ fs'.length ≤ x.wt
end Go.Proofs.YtkdeleafgailhaaGreatDoor
end
section
set_option linter.unusedVariables false
set_option linter.unusedSimpArgs false
namespace Go.Proofs.YtkdeleafgailhaaGreatDoor
open Go Go.RowKit Go.Proofs.YtkdeleafgailhaaGreatDoorW.PrintWords

/-- Only rows of values and of fields between a and b may read otherwise. -/
structure Turning (a b : Nat) (W wr : World) : Prop where
  os : wr.os = W.os
  tape : wr.tape = W.tape
  output : wr.output = W.output
  size : wr.heap.size = W.heap.size
  out : ∀ k, ¬ (a ≤ k ∧ k < b) → wr.heap[k]? = W.heap[k]?
  same : ∀ (k : Nat) (cs : Array Value) (q : TypeId), W.heap[k]? = some (.cells cs q (0, 0)) → ∃ cs', wr.heap[k]? = some (.cells cs' q (0, 0)) ∧ cs'.size = cs.size ∧ (q ≠ 27 → q ≠ 69 → cs' = cs)
theorem Turning.refl (a b : Nat) (W : World) : Turning a b W W := ⟨rfl, rfl, rfl, rfl, fun _ _ => rfl, fun k cs q h => ⟨cs, h, rfl, fun _ _ => rfl⟩⟩
theorem Turning.set {a b : Nat} {W wr : World} (h : Turning a b W wr) {g : Nat} {cs : Array Value} {q : TypeId} (hg : W.heap[g]? = some (.cells cs q (0, 0))) (hq : q = 27 ∨ q = 69) (hab : a ≤ g ∧ g < b) (j : Nat) (u : Value) : Turning a b W (wr.setCell ⟨g, j, none⟩ u) := by
  refine ⟨h.os, h.tape, h.output, by rw [World.size_setCell]; exact h.size, fun k hk => ?_, fun k cs' q' hk => ?_⟩
  · rw [Below.heap_setCell wr ⟨g, j, none⟩ u k (by rintro rfl; exact hk hab)]
    exact h.out k hk
  · obtain ⟨c1, h1, h2, h3⟩ := h.same k cs' q' hk
    by_cases hkg : k = g
    · subst hkg
      refine ⟨c1.setIfInBounds j u, blk_set h1 j u, by rw [Array.size_setIfInBounds]; exact h2, fun n1 n2 => ?_⟩
      rw [hg] at hk
      injection hk with hk
      injection hk with _ ht
      rcases hq with rfl | rfl
      · exact absurd ht.symm n1
      · exact absurd ht.symm n2
    · exact ⟨c1, (Below.heap_setCell wr ⟨g, j, none⟩ u k hkg).trans h1, h2, h3⟩
/-- The j-th of the lists. -/
structure RowAt (W : World) (a b : Nat) (q : TypeId) (sz : Nat) (LA : Option Addr) (i : Nat) (ad : Addr) (g m c : Nat) (cs : Array Value) : Prop where
  head : LA = some ad
  hty : ∃ hs hq, W.heap[(ad.add i).block]? = some (.cells hs hq (0, 0)) ∧ hq ≠ 27 ∧ hq ≠ 69
  cell : W.cell? (ad.add i) = some (.slice (some ⟨g, 0, none⟩) m c)
  blk : W.heap[g]? = some (.cells cs q (0, 0))
  len : m * sz ≤ cs.size
  ab : a ≤ g ∧ g < b
  top : m ≤ 140737488355328
/-- What Turn writes over. -/
structure Hands (W : World) (tb a b : Nat) (LA FA : Option Addr) (nl lc nf fc : Nat) : Prop where
  tbt : ∃ hs hq, W.heap[tb]? = some (.cells hs hq (0, 0)) ∧ hq ≠ 27 ∧ hq ≠ 69
  cl : W.cell? ⟨tb, 16, none⟩ = some (.slice LA nl lc)
  cf : W.cell? ⟨tb, 17, none⟩ = some (.slice FA nf fc)
  rl : ∀ i, i < nl → ∃ ad g m c cs, RowAt W a b 27 8 LA i ad g m c cs
  rf : ∀ i, i < nf → ∃ ad g m c cs, RowAt W a b 69 9 FA i ad g m c cs
  nl : nl ≤ 140737488355328
  nf : nf ≤ 140737488355328
theorem Turning.cell {a b : Nat} {W wr : World} (h : Turning a b W wr) {p : Addr} (hp : ∃ hs hq, W.heap[p.block]? = some (.cells hs hq (0, 0)) ∧ hq ≠ 27 ∧ hq ≠ 69) : wr.cell? p = W.cell? p := by
  obtain ⟨hs, hq, h0, n1, n2⟩ := hp
  obtain ⟨c1, h1, _, h3⟩ := h.same _ _ _ h0
  have := h3 n1 n2
  subst this
  unfold World.cell?
  rw [h1, h0]
theorem cell_in {W : World} {g : Nat} {cs : Array Value} {q : TypeId} (h : W.heap[g]? = some (.cells cs q (0, 0))) {j : Nat} (hj : j < cs.size) : ∃ u, W.cell? ⟨g, j, none⟩ = some u := ⟨cs[j], (cellAll h j).trans (Array.getElem?_eq_getElem hj)⟩
set_option maxRecDepth 100000 in
set_option maxHeartbeats 8000000 in
/-- **(*voyageref02.Lent).Turn.** -/
theorem turn_any (w : World) (tb a b : Nat) (LA FA : Option Addr) (nl lc nf fc : Nat) (h : Hands w tb a b LA FA nl lc nf fc) :
    Calls Tryz.prog 14 #[.pointer (some ⟨tb, 0, none⟩)] w fun e w' => e = .returned (.tuple #[]) ∧ Turning a b w w' := by
  have hcl := h.cl
  have hnl := h.nl
  have hnf := h.nf
  replace h := Aside0.mk h
  go_enter Tryz.func14, Tryz.ntmps14
  go_wp2_with fail
  go_loopw [2, 3] (fun i _ wr => ∃ (n : Nat), i = .int .i64 n ∧ n ≤ nl ∧ Turning a b w wr) (fun i _ _ => nl - (intOf i).toNat)
  case atStart => exact ⟨0, rfl, Nat.zero_le _, Turning.refl _ _ _⟩
  case round =>
    obtain ⟨n, rfl, hn, hT⟩ := hrel
    clear hcl
    have hcl : wr.cell? ⟨tb, 16, none⟩ = some (.slice LA nl lc) := (hT.cell (p := ⟨tb, 16, none⟩) h.out.tbt).trans h.out.cl
    have hn0 : (0 : Int) ≤ (n : Int) := by omega
    by_cases hlt : n < nl
    · have hlt2 : (n : Int) < (nl : Int) := by omega
      obtain ⟨ad, g, m, c, cs, hR⟩ := h.out.rl n hlt
      obtain rfl := hR.head
      have hm := hR.top
      replace hR := Aside0.mk hR
      have hcr : wr.cell? (ad.add n) = some (.slice (some ⟨g, 0, none⟩) m c) := (hT.cell (p := ad.add n) hR.out.hty).trans hR.out.cell
      go_wp2_with fail
      go_loopw [3] (fun i wr => ∃ (k : Nat), i = .int .i64 k ∧ k ≤ m ∧ Turning a b w wr) (fun i _ => m - (intOf i).toNat)
      case atStart => exact ⟨0, rfl, Nat.zero_le _, hT⟩
      case round =>
        clear hcl hcr
        obtain ⟨k, rfl, hk, hT2⟩ := hrel
        have hcl : wr.cell? ⟨tb, 16, none⟩ = some (.slice (some ad) nl lc) := (hT2.cell (p := ⟨tb, 16, none⟩) h.out.tbt).trans h.out.cl
        have hcr : wr.cell? (ad.add n) = some (.slice (some ⟨g, 0, none⟩) m c) := (hT2.cell (p := ad.add n) hR.out.hty).trans hR.out.cell
        obtain ⟨cg, hg1, hg2, _⟩ := hT2.same _ _ _ hR.out.blk
        by_cases hk2 : k < m
        · have hk3 : (k : Int) < (m : Int) := by omega
          have hk0 : (0 : Int) ≤ (k : Int) := by omega
          have hl := hR.out.len
          have hfg := frozenAll hg1
          obtain ⟨u0, hu0⟩ := cell_in hg1 (j := k * 8) (by omega)
          obtain ⟨u1, hu1⟩ := cell_in hg1 (j := k * 8 + 1) (by omega)
          obtain ⟨u2, hu2⟩ := cell_in hg1 (j := k * 8 + 2) (by omega)
          obtain ⟨u3, hu3⟩ := cell_in hg1 (j := k * 8 + 3) (by omega)
          obtain ⟨u4, hu4⟩ := cell_in hg1 (j := k * 8 + 4) (by omega)
          obtain ⟨u5, hu5⟩ := cell_in hg1 (j := k * 8 + 5) (by omega)
          obtain ⟨u6, hu6⟩ := cell_in hg1 (j := k * 8 + 6) (by omega)
          obtain ⟨u7, hu7⟩ := cell_in hg1 (j := k * 8 + 7) (by omega)
          go_wp2_with fail
          go_roundw
          case measure => first | (simp [intOf]; done) | (simp [intOf]; omega)
          exact ⟨k + 1, by go_num, by omega, ((((((((hT2.set hR.out.blk (.inl rfl) hR.out.ab _ _).set hR.out.blk (.inl rfl) hR.out.ab _ _).set hR.out.blk (.inl rfl) hR.out.ab _ _).set hR.out.blk (.inl rfl) hR.out.ab _ _).set hR.out.blk (.inl rfl) hR.out.ab _ _).set hR.out.blk (.inl rfl) hR.out.ab _ _).set hR.out.blk (.inl rfl) hR.out.ab _ _).set hR.out.blk (.inl rfl) hR.out.ab _ _)⟩
        · obtain rfl : k = m := by omega
          have hno : ¬ (k : Int) < (k : Int) := by omega
          go_wp2_with fail
          go_roundw
          case measure => first | (simp [intOf]; done) | (simp [intOf]; omega)
          exact ⟨n + 1, by go_num, by omega, hT2⟩
    · obtain rfl : n = nl := by omega
      have hno : ¬ (n : Int) < (n : Int) := by omega
      have hcf : wr.cell? ⟨tb, 17, none⟩ = some (.slice FA nf fc) := (hT.cell (p := ⟨tb, 17, none⟩) h.out.tbt).trans h.out.cf
      go_wp2_with fail
      go_loopw [4, 5] (fun i _ wr => ∃ (n2 : Nat), i = .int .i64 n2 ∧ n2 ≤ nf ∧ Turning a b w wr) (fun i _ _ => nf - (intOf i).toNat)
      case atStart => exact ⟨0, rfl, Nat.zero_le _, hT⟩
      case round =>
        clear hcl hcf hT
        obtain ⟨n2, rfl, hn2, hT⟩ := hrel
        have hcf : wr.cell? ⟨tb, 17, none⟩ = some (.slice FA nf fc) := (hT.cell (p := ⟨tb, 17, none⟩) h.out.tbt).trans h.out.cf
        have hn0 : (0 : Int) ≤ (n2 : Int) := by omega
        by_cases hlt : n2 < nf
        · have hlt2 : (n2 : Int) < (nf : Int) := by omega
          obtain ⟨ad, g, m, c, cs, hR⟩ := h.out.rf n2 hlt
          obtain rfl := hR.head
          have hm := hR.top
          replace hR := Aside0.mk hR
          have hcr : wr.cell? (ad.add n2) = some (.slice (some ⟨g, 0, none⟩) m c) := (hT.cell (p := ad.add n2) hR.out.hty).trans hR.out.cell
          go_wp2_with fail
          go_loopw [5] (fun i wr => ∃ (k : Nat), i = .int .i64 k ∧ k ≤ m ∧ Turning a b w wr) (fun i _ => m - (intOf i).toNat)
          case atStart => exact ⟨0, rfl, Nat.zero_le _, hT⟩
          case round =>
            clear hcf hcr
            obtain ⟨k, rfl, hk, hT2⟩ := hrel
            have hcf : wr.cell? ⟨tb, 17, none⟩ = some (.slice (some ad) nf fc) := (hT2.cell (p := ⟨tb, 17, none⟩) h.out.tbt).trans h.out.cf
            have hcr : wr.cell? (ad.add n2) = some (.slice (some ⟨g, 0, none⟩) m c) := (hT2.cell (p := ad.add n2) hR.out.hty).trans hR.out.cell
            obtain ⟨cg, hg1, hg2, _⟩ := hT2.same _ _ _ hR.out.blk
            by_cases hk2 : k < m
            · have hk3 : (k : Int) < (m : Int) := by omega
              have hk0 : (0 : Int) ≤ (k : Int) := by omega
              have hl := hR.out.len
              have hfg := frozenAll hg1
              obtain ⟨u0, hu0⟩ := cell_in hg1 (j := k * 9) (by omega)
              obtain ⟨u1, hu1⟩ := cell_in hg1 (j := k * 9 + 1) (by omega)
              obtain ⟨u2, hu2⟩ := cell_in hg1 (j := k * 9 + 2) (by omega)
              obtain ⟨u3, hu3⟩ := cell_in hg1 (j := k * 9 + 3) (by omega)
              obtain ⟨u4, hu4⟩ := cell_in hg1 (j := k * 9 + 4) (by omega)
              obtain ⟨u5, hu5⟩ := cell_in hg1 (j := k * 9 + 5) (by omega)
              obtain ⟨u6, hu6⟩ := cell_in hg1 (j := k * 9 + 6) (by omega)
              obtain ⟨u7, hu7⟩ := cell_in hg1 (j := k * 9 + 7) (by omega)
              obtain ⟨u8, hu8⟩ := cell_in hg1 (j := k * 9 + 8) (by omega)
              go_wp2_with fail
              go_roundw
              case measure => first | (simp [intOf]; done) | (simp [intOf]; omega)
              exact ⟨k + 1, by go_num, by omega, (((((((((hT2.set hR.out.blk (.inr rfl) hR.out.ab _ _).set hR.out.blk (.inr rfl) hR.out.ab _ _).set hR.out.blk (.inr rfl) hR.out.ab _ _).set hR.out.blk (.inr rfl) hR.out.ab _ _).set hR.out.blk (.inr rfl) hR.out.ab _ _).set hR.out.blk (.inr rfl) hR.out.ab _ _).set hR.out.blk (.inr rfl) hR.out.ab _ _).set hR.out.blk (.inr rfl) hR.out.ab _ _).set hR.out.blk (.inr rfl) hR.out.ab _ _)⟩
            · obtain rfl : k = m := by omega
              have hno : ¬ (k : Int) < (k : Int) := by omega
              go_wp2_with fail
              go_roundw
              case measure => first | (simp [intOf]; done) | (simp [intOf]; omega)
              exact ⟨n2 + 1, by go_num, by omega, hT2⟩
        · obtain rfl : n2 = nf := by omega
          have hno2 : ¬ (n2 : Int) < (n2 : Int) := by omega
          go_wp2_with fail
          go_end0
          exact ⟨rfl, hT⟩
end Go.Proofs.YtkdeleafgailhaaGreatDoor
end
