/- record's reader: text, place. How deep what is read may be: plain. There and back, plainly: a text that is told in quotes is read as it. There and back, plainly: texts; what clean gives is valid. There and back, plainly: numbers. -/
import Derived.Test.YtkdeleafgailhaaGreatDoorH21
import Derived.Test.YtkdeleafgailhaaGreatDoorH20
import Derived.Test.YtkdeleafgailhaaGreatDoorH10
import Derived.Test.YtkdeleafgailhaaGreatDoorH16
import Derived.Lib.MapLaws
import Derived.Lib.ValidLaws
import Derived.Test.YtkdeleafgailhaaGreatDoorH8
import Derived.Test.YtkdeleafgailhaaGreatDoorH17
section
set_option linter.unusedVariables false
set_option linter.unusedSimpArgs false
namespace Go.Proofs.YtkdeleafgailhaaGreatDoor
open Go Go.RowKit Go.Proofs.YtkdeleafgailhaaGreatDoorW.PrintWords

theorem conv_bytes {W : World} {A : Option Addr} {n c : Nat} {l : List UInt8} (h : ReadsInt W .u8 A n (bint l)) : (convert 49 9 (.slice A n c)).run Tryz.prog W = .ok (.string ⟨l.toArray⟩) W := by
  rw [← strOf_bint]
  exact string_of_reads Tryz.underlying49 Tryz.underlying5 Tryz.underlying9 h
theorem reads_low {w0 W : World} {k : IntKind} {A : Option Addr} {n : Nat} {xs : List Int} (h : ReadsInt w0 k A n xs) (hb : Below w0.heap.size w0 W) : ReadsInt W k A n xs := h.below hb
def TxtGives (w0 : World) (r : Nat) (w : World) : Option (List UInt8 × List UInt8) → Ending → World → Prop
  | some (s, rest), e, w' => e = .returned (.string ⟨s.toArray⟩) ∧ RB w0 r rest false w' ∧ Read r w w'
  | none, e, w' => e = .returned (.string ⟨#[]⟩) ∧ (∃ b', RB w0 r b' true w') ∧ Read r w w'

set_option maxRecDepth 100000 in
set_option maxHeartbeats 8000000 in
theorem rtext_none {w0 : World} {r : Nat} {w : World} (cC : Calls Tryz.prog 52 #[.pointer (some ⟨r, 0, none⟩)] w fun e w' => CntGives w0 r w none e w') :
    Calls Tryz.prog 51 #[.pointer (some ⟨r, 0, none⟩)] w fun e w' => TxtGives w0 r w none e w' := by
  unfold CntGives at cC
  go_enter Tryz.func51, Tryz.ntmps51
  go_wp2_with (first
    | (go_at_call 50; refine (cut_ok h1 0 (Nat.zero_le _)).mono ?_; rintro e w2 ⟨A, rfl, hR, h2, hr2⟩; have hcv := conv_bytes (c := 0) (reads_low hR h2.low); rw [List.take_zero] at hcv; have hfin := Aside0.mk (hr1.trans hr2); clear h1 hr1 hr2 hR)
    | (go_at_call 52; refine cC.mono ?_; rintro e w1 ⟨rfl, ⟨b', h1⟩, hr1⟩))
  go_ret
  exact ⟨rfl, ⟨_, h2⟩, hfin.out⟩
set_option maxRecDepth 100000 in
set_option maxHeartbeats 8000000 in
theorem rtext_any {w0 : World} {r : Nat} {b : List UInt8} {w : World} (h : RB w0 r b false w) :
    Calls Tryz.prog 51 #[.pointer (some ⟨r, 0, none⟩)] w fun e w' => TxtGives w0 r w (textD b) e w' := by
  have cC := rcount_any h
  unfold textD
  cases hc : cntD b with
  | none =>
    rw [hc] at cC
    exact rtext_none cC
  | some p =>
    obtain ⟨n, rest⟩ := p
    rw [hc] at cC
    unfold CntGives at cC
    dsimp only
    clear h hc
    by_cases hn : n ≤ rest.length
    · rw [if_pos hn]
      go_enter Tryz.func51, Tryz.ntmps51
      go_wp2_with (first
        | (go_at_call 50; refine (cut_ok h1 n hn).mono ?_; rintro e w2 ⟨A, rfl, hR, h2, hr2⟩; have hcv := conv_bytes (c := n) (reads_low hR h2.low); have hfin := Aside0.mk (hr1.trans hr2); clear h1 hr1 hr2 hR)
        | (go_at_call 52; refine cC.mono ?_; rintro e w1 ⟨rfl, h1, hr1⟩))
      go_ret
      exact ⟨rfl, h2, hfin.out⟩
    · rw [if_neg hn]
      go_enter Tryz.func51, Tryz.ntmps51
      go_wp2_with (first
        | (go_at_call 50; refine (cut_no h1 n (by omega)).mono ?_; rintro e w2 ⟨rfl, h2, hr2⟩; have hcv := conv_bytes (W := w2) (A := none) (n := 0) (c := 0) (l := []) ⟨rfl, by decide, fun h => absurd h (by decide)⟩; have hfin := Aside0.mk (hr1.trans hr2); clear h1 hr1 hr2)
        | (go_at_call 52; refine cC.mono ?_; rintro e w1 ⟨rfl, h1, hr1⟩))
      go_ret
      exact ⟨rfl, ⟨_, h2⟩, hfin.out⟩
theorem rtext_bad {w0 : World} {r : Nat} {b : List UInt8} {w : World} (h : RB w0 r b true w) :
    Calls Tryz.prog 51 #[.pointer (some ⟨r, 0, none⟩)] w fun e w' => TxtGives w0 r w none e w' := rtext_none (rcount_bad h)

/-! ### place -/
def PlcGives (w0 : World) (r : Nat) (w : World) : Option (List Int × List UInt8) → Ending → World → Prop
  | some (l, rest), e, w' => ∃ A c, e = .returned (.slice A l.length c) ∧ w'.ownsRow w.heap.size 3 1 (.slice A l.length c) l.length (nums .i64 l) ∧ RB w0 r rest false w' ∧ Read r w w'
  | none, e, w' => ∃ A n c, e = .returned (.slice A n c) ∧ (∃ b', RB w0 r b' true w') ∧ Read r w w'
theorem rep_zero (b : List UInt8) : rep 0 b = some ([], b) := rfl
theorem rep_none (n : Nat) (b : List UInt8) (h : cntD b = none) : rep (n + 1) b = none := by rw [rep, h]
theorem rep_some (n : Nat) (b : List UInt8) {x : Nat} {b1 : List UInt8} (h : cntD b = some (x, b1)) : rep (n + 1) b = match rep n b1 with
      | none => none
      | some (xs, b2) => some ((x : Int) :: xs, b2) := by rw [rep, h]; rfl
def joinR (l : List Int) : Option (List Int × List UInt8) → Option (List Int × List UInt8)
  | none => none
  | some (xs, b) => some (l ++ xs, b)
theorem joinR_snoc (l : List Int) (x : Int) (o : Option (List Int × List UInt8)) : joinR l (match o with
      | none => none
      | some (xs, b2) => some (x :: xs, b2)) = joinR (l ++ [x]) o := by
  cases o with
  | none => rfl
  | some p => simp [joinR]

/-- The loop's state. -/
def PlcAt (w0 : World) (r : Nat) (w : World) (n0 : Nat) (rest0 : List UInt8) (v : Value) (n : Nat) (wr : World) : Prop :=
  ∃ ls : List Int, wr.ownsRow w.heap.size 3 1 v ls.length (nums .i64 ls) ∧ ls.length + n = n0 ∧ ls.length ≤ 193 ∧ Read r w wr ∧
    ((∃ b, ls.length ≤ 192 ∧ RB w0 r b false wr ∧ Aside0 (rep n0 rest0 = joinR ls (rep n b))) ∨ ((∃ b, RB w0 r b true wr) ∧ (n0 ≤ 192 → rep n0 rest0 = none)))
theorem read_grown {r : Nat} {w a b : World} {q : Option Nat} (h : Read r w a) (hg : a.grownBy b q) (hq : ∀ k, q = some k → w.heap.size ≤ k) : Read r w b :=
  ⟨hg.os.trans h.os, hg.tape.trans h.tape, hg.output.trans h.output, Nat.le_trans h.size hg.size, fun k hk hne => (hg.block k (Nat.lt_of_lt_of_le hk h.size) (fun e => by have := hq k e.symm; omega)).trans (h.block k hk hne)⟩
theorem RB.grown {w0 : World} {r : Nat} {b : List UInt8} {wrong : Bool} {a c : World} {q : Option Nat} (h : RB w0 r b wrong a) (hg : a.grownBy c q) (hq : ∀ k, q = some k → r < k) : RB w0 r b wrong c := by
  obtain ⟨A, cc, h1, h2⟩ := h.blk
  refine ⟨⟨A, cc, (hg.block r (blk_lt h1) (fun e => by have := hq r e.symm; omega)).trans h1, h2⟩, h.le, pw_below_grown h.low q h.low.size hg (fun k hk => by have := hq k hk; have := h.le; omega)⟩
theorem RB.set_w {w0 : World} {r : Nat} {b : List UInt8} {wrong : Bool} {w W : World} (h : RB w0 r b wrong W) (hr : Read r w W) (v : Bool) : RB w0 r b v (W.setCell ⟨r, 1, none⟩ (.bool v)) ∧ Read r w (W.setCell ⟨r, 1, none⟩ (.bool v)) := by
  obtain ⟨A, c, hb, hR, hc⟩ := h.blk
  have hW := (Read.refl r W).set_ 1 (.bool v)
  exact ⟨⟨⟨A, c, blk_set hb 1 (.bool v), hR, hc⟩, h.le, h.low.trans (hW.below h.le h.low.size)⟩, hr.trans hW⟩
theorem own_read {r base : Nat} {e : TypeId} {size n : Nat} {v : Value} {xs : List Value} {a b : World} (h : a.ownsRow base e size v n xs) (hr : Read r a b) (hlt : r < base) : b.ownsRow base e size v n xs :=
  own_other h hr (by
    cases hk : v.ownBlock with
    | none => exact .inl rfl
    | some k => exact .inr (fun e => by injection e with e; have := own_base h k hk; omega))
set_option maxRecDepth 100000 in
set_option maxHeartbeats 16000000 in
theorem rplace_any {w0 : World} {r : Nat} {b : List UInt8} {w : World} (h : RB w0 r b false w) :
    Calls Tryz.prog 53 #[.pointer (some ⟨r, 0, none⟩)] w fun e w' => PlcGives w0 r w (placeD b) e w' := by
  have cC := rcount_any h
  have hrl : r < w.heap.size := by obtain ⟨A, c, h1, _⟩ := h.blk; exact blk_lt h1
  obtain ⟨fin, hfin⟩ : ∃ fin, fin = placeD b := ⟨_, rfl⟩
  rw [← hfin]
  unfold placeD at hfin
  cases hc : cntD b with
  | none =>
    rw [hc] at cC hfin
    dsimp only at hfin
    subst hfin
    unfold CntGives at cC
    clear h hc
    go_enter Tryz.func53, Tryz.ntmps53
    go_wp2_with (go_at_call 52; refine cC.mono ?_; rintro e w1 ⟨rfl, ⟨b', h1⟩, hr1⟩)
    go_loopw [3, 4] (fun v q wr => v = .slice none 0 0 ∧ q = .int .i64 0 ∧ wr = w1) (fun _ _ _ => 0)
    case atStart => exact ⟨rfl, rfl, rfl⟩
    case round =>
      obtain ⟨rfl, rfl, rfl⟩ := hrel
      go_wp2_with fail
      go_ret
      exact ⟨none, 0, 0, rfl, ⟨b', h1⟩, hr1⟩
  | some p =>
    obtain ⟨n0, rest0⟩ := p
    obtain ⟨_, hn56⟩ := cntD_inv hc
    rw [hc] at cC hfin
    dsimp only at hfin
    unfold CntGives at cC
    clear h hc
    replace hfin := Aside0.mk hfin
    go_enter Tryz.func53, Tryz.ntmps53
    go_wp2_with (go_at_call 52; refine cC.mono ?_; rintro e w1 ⟨rfl, h1, hr1⟩)
    go_loopw [3, 4] (fun v q wr => ∃ n : Nat, q = .int .i64 n ∧ PlcAt w0 r w n0 rest0 v n wr) (fun _ q _ => (intOf q).toNat)
    case atStart =>
      refine ⟨n0, rfl, [], own_nil _ _ _ _, by simp, by simp, hr1, .inl ⟨rest0, by simp, h1, ⟨?_⟩⟩⟩
      cases rep n0 rest0 with
      | none => rfl
      | some p => rfl
    case round =>
      obtain ⟨n, rfl, ls, hown, hln, hl193, hrd, hst⟩ := hrel
      have hn56' : n < 72057594037927936 := by omega
      have hwb : w.heap.size ≤ wr.heap.size := hrd.size
      obtain ⟨A, c, rfl, hlc, hRI⟩ := own_reads_of_le (enc := Value.int .i64) (d := (0 : Int)) hown
      have hRI2 : ReadsInt wr .i64 A ls.length ls := hRI
      rcases hst with ⟨bk, hl192, hRB, hrep⟩ | ⟨⟨bk, hRB⟩, hno⟩
      · obtain ⟨hc1, hf1⟩ := hRB.cells
        cases n with
        | zero =>
          have hls : fin = some (ls, bk) := by
            have h1 := hrep.out
            rw [rep_zero] at h1
            rw [hfin.out, if_pos (by omega), h1]
            simp [joinR]
          subst hls
          go_wp2_with fail
          go_ret
          exact ⟨A, c, rfl, hown, hRB, hrd⟩
        | succ n =>
          have hpos : (0 : Int) < ((n + 1 : Nat) : Int) := by omega
          have hsub : IntKind.i64.wrap (((n + 1 : Nat) : Int) - 1) = (n : Int) := by rw [IntKind.wrap_i64]; omega
          have hq : ∀ k, (Value.slice A ls.length c).ownBlock = some k → w.heap.size ≤ k := own_base hown
          have hc2 := rcount_any hRB
          cases hcb : cntD bk with
          | none =>
            rw [hcb] at hc2
            unfold CntGives at hc2
            have hno : n0 ≤ 192 → rep n0 rest0 = none := fun _ => by rw [hrep.out, rep_none n bk hcb]; rfl
            replace hno := Aside0.mk hno
            clear hrep hcb hRB hRI hRI2
            replace hlc := Aside0.mk hlc
            replace hln := Aside0.mk hln
            go_wp2_with (first
              | (go_at_call 52; refine hc2.mono ?_; rintro e w2 ⟨rfl, ⟨b2, hRB2⟩, hr2⟩; have hown2 := own_read hown hr2 hrl; have hwb2 : w.heap.size ≤ w2.heap.size := Nat.le_trans hwb hr2.size)
              | ((with_reducible refine gate_builtin (b := .append) (xs := #[.tmp 18, .tmp 21]) rfl ?_); at_builtin; refine print_append_num (w0 := w2) w.heap.size rfl (.tmp 18) (.tmp 21) 44 3 .i64 8 rfl Tryz.underlying44 (by kernel_rfl) (by decide) _ ls 0 rfl rfl hown2 (Below.refl _ _) hwb2 (by omega) ?_; intro v3 w3 hown3 hB3 hg3 hat3; have hRB3 := hRB2.grown hg3 (fun k hk => Nat.lt_of_lt_of_le hrl (hq k hk)); have hrd3 := read_grown (hrd.trans hr2) hg3 hq; obtain ⟨hc3, hf3⟩ := hRB3.cells; obtain ⟨A3, c3, rfl⟩ := own_slice hown3; clear hat3))
            go_roundw
            case rel =>
              obtain ⟨h4, hr4⟩ := hRB3.set_w hrd3 true
              exact ⟨n, by go_num, ls ++ [0], (by have h5 := own_read hown3 ((Read.refl r w3).set_ 1 (.bool true)) hrl; rw [show (ls ++ [(0 : Int)]).length = ls.length + 1 by simp] at h5 ⊢; exact h5), by rw [List.length_append]; have := hln.out; simp; omega, by rw [List.length_append]; simp; omega, hr4, .inr ⟨⟨b2, h4⟩, hno.out⟩⟩
            case measure => simp [intOf]
          | some p =>
            obtain ⟨x, b1⟩ := p
            rw [hcb] at hc2
            unfold CntGives at hc2
            have hr1 : rep n0 rest0 = joinR (ls ++ [(x : Int)]) (rep n b1) := by rw [hrep.out, rep_some n bk hcb, joinR_snoc]
            replace hr1 := Aside0.mk hr1
            clear hrep hcb hRB hRI hRI2
            replace hlc := Aside0.mk hlc
            replace hln := Aside0.mk hln
            have hll : (ls ++ [(x : Int)]).length = ls.length + 1 := by simp
            by_cases hm : ls.length + 1 ≤ 192
            · have hmI : ¬ (192 : Int) < (ls.length : Int) + 1 := by omega
              have hmd : decide ((192 : Int) < (ls.length : Int) + 1) = false := decide_eq_false hmI
              go_wp2_with (first
                | (go_at_call 52; refine hc2.mono ?_; rintro e w2 ⟨rfl, hRB2, hr2⟩; have hown2 := own_read hown hr2 hrl; have hwb2 : w.heap.size ≤ w2.heap.size := Nat.le_trans hwb hr2.size)
                | ((with_reducible refine gate_builtin (b := .append) (xs := #[.tmp 18, .tmp 21]) rfl ?_); at_builtin; refine print_append_num (w0 := w2) w.heap.size rfl (.tmp 18) (.tmp 21) 44 3 .i64 8 rfl Tryz.underlying44 (by kernel_rfl) (by decide) _ ls (x : Int) rfl rfl hown2 (Below.refl _ _) hwb2 (by omega) ?_; intro v3 w3 hown3 hB3 hg3 hat3; have hRB3 := hRB2.grown hg3 (fun k hk => Nat.lt_of_lt_of_le hrl (hq k hk)); have hrd3 := read_grown (hrd.trans hr2) hg3 hq; obtain ⟨hc3, hf3⟩ := hRB3.cells; obtain ⟨A3, c3, rfl⟩ := own_slice hown3; clear hat3))
              go_roundw
              case rel =>
                obtain ⟨h4, hr4⟩ := hRB3.set_w hrd3 false
                exact ⟨n, by go_num, ls ++ [(x : Int)], (by have h5 := own_read hown3 ((Read.refl r w3).set_ 1 (.bool false)) hrl; rw [hll] at h5 ⊢; exact h5), by rw [hll]; have := hln.out; omega, by rw [hll]; omega, hr4, .inl ⟨b1, by rw [hll]; omega, h4, hr1⟩⟩
              case measure => simp [intOf]
            · have hmI : (192 : Int) < (ls.length : Int) + 1 := by omega
              go_wp2_with (first
                | (go_at_call 52; refine hc2.mono ?_; rintro e w2 ⟨rfl, hRB2, hr2⟩; have hown2 := own_read hown hr2 hrl; have hwb2 : w.heap.size ≤ w2.heap.size := Nat.le_trans hwb hr2.size)
                | ((with_reducible refine gate_builtin (b := .append) (xs := #[.tmp 18, .tmp 21]) rfl ?_); at_builtin; refine print_append_num (w0 := w2) w.heap.size rfl (.tmp 18) (.tmp 21) 44 3 .i64 8 rfl Tryz.underlying44 (by kernel_rfl) (by decide) _ ls (x : Int) rfl rfl hown2 (Below.refl _ _) hwb2 (by omega) ?_; intro v3 w3 hown3 hB3 hg3 hat3; have hRB3 := hRB2.grown hg3 (fun k hk => Nat.lt_of_lt_of_le hrl (hq k hk)); have hrd3 := read_grown (hrd.trans hr2) hg3 hq; obtain ⟨hc3, hf3⟩ := hRB3.cells; obtain ⟨A3, c3, rfl⟩ := own_slice hown3; clear hat3))
              go_roundw
              case rel =>
                obtain ⟨h4, hr4⟩ := hRB3.set_w hrd3 true
                exact ⟨n, by go_num, ls ++ [(x : Int)], (by have h5 := own_read hown3 ((Read.refl r w3).set_ 1 (.bool true)) hrl; rw [hll] at h5 ⊢; exact h5), by rw [hll]; have := hln.out; omega, by rw [hll]; omega, hr4, .inr ⟨⟨b1, h4⟩, fun h9 => by have := hln.out; omega⟩⟩
              case measure => simp [intOf]
      · have hfn : fin = none := by
          rw [hfin.out]
          by_cases h9 : n0 ≤ 192
          · rw [if_pos h9, hno h9]
          · rw [if_neg h9]
        subst hfn
        obtain ⟨hc1, hf1⟩ := hRB.cells
        by_cases h0 : (0 : Int) < (n : Int)
        · go_wp2_with fail
          go_ret
          exact ⟨A, _, c, rfl, ⟨_, hRB⟩, hrd⟩
        · go_wp2_with fail
          go_ret
          exact ⟨A, _, c, rfl, ⟨_, hRB⟩, hrd⟩
end Go.Proofs.YtkdeleafgailhaaGreatDoor
end
section
set_option linter.unusedVariables false
set_option linter.unusedSimpArgs false
namespace Go.Proofs.YtkdeleafgailhaaGreatDoor
open Go Go.RowKit

end Go.Proofs.YtkdeleafgailhaaGreatDoor
end
section
set_option linter.unusedVariables false
set_option linter.unusedSimpArgs false
namespace Go.Proofs.YtkdeleafgailhaaGreatDoor
open Go Go.RowKit

/-! ### bytes at a place -/
/-- The text s has the bytes q from j on. -/
def Has (s : ByteArray) (j : Nat) (q : List UInt8) : Prop := j + q.length ≤ s.size ∧ ∀ k c, q[k]? = some c → byteAt s (j + k) = c.toNat
theorem Has.nil {s : ByteArray} {j : Nat} (h : j ≤ s.size) : Has s j [] := ⟨by simpa using h, fun k c h => by simp at h⟩
theorem Has.left {s : ByteArray} {j : Nat} {a b : List UInt8} (h : Has s j (a ++ b)) : Has s j a := by
  obtain ⟨h1, h2⟩ := h
  rw [List.length_append] at h1
  refine ⟨by omega, fun k c hk => h2 k c ?_⟩
  rw [List.getElem?_append_left (List.getElem?_eq_some_iff.1 hk).1]
  exact hk
theorem Has.right {s : ByteArray} {j : Nat} {a b : List UInt8} (h : Has s j (a ++ b)) : Has s (j + a.length) b := by
  obtain ⟨h1, h2⟩ := h
  rw [List.length_append] at h1
  refine ⟨by omega, fun k c hk => ?_⟩
  have := h2 (a.length + k) c (by rw [List.getElem?_append_right (by omega), Nat.add_sub_cancel_left]; exact hk)
  rw [← Nat.add_assoc] at this
  exact this
theorem Has.head {s : ByteArray} {j : Nat} {c : UInt8} {q : List UInt8} (h : Has s j (c :: q)) : byteAt s j = c.toNat ∧ j < s.size := by
  obtain ⟨h1, h2⟩ := h
  refine ⟨by simpa using h2 0 c rfl, by simp at h1; omega⟩
theorem Has.tail {s : ByteArray} {j : Nat} {c : UInt8} {q : List UInt8} (h : Has s j (c :: q)) : Has s (j + 1) q := Has.right (a := [c]) h
theorem byteAt_get {s : ByteArray} {j : Nat} (h : j < s.size) : byteAt s j = (s.get! j).toNat := by
  unfold byteAt
  rw [dif_pos h]
  congr 1
  show s.data[j] = s.data[j]!
  rw [getElem!_pos s.data j h]
/-- A whole text has its bytes. -/
theorem Has.all (s : ByteArray) : Has s 0 s.data.toList := by
  refine ⟨by rw [Array.length_toList, Nat.zero_add]; exact Nat.le_refl _, fun k c hk => ?_⟩
  rw [Nat.zero_add]
  rw [Array.getElem?_toList] at hk
  obtain ⟨hl, hc⟩ := Array.getElem?_eq_some_iff.1 hk
  unfold byteAt
  rw [dif_pos (show k < s.size from hl)]
  show (s.data[k]).toNat = _
  rw [hc]
theorem Has.part (s : ByteArray) (j n : Nat) (h : j + n ≤ s.size) : Has s j ((s.data.toList.drop j).take n) := by
  have h0 := Has.all s
  have e : s.data.toList = s.data.toList.take j ++ ((s.data.toList.drop j).take n ++ (s.data.toList.drop j).drop n) := by rw [List.take_append_drop, List.take_append_drop]
  have hj : (s.data.toList.take j).length = j := by rw [List.length_take, Array.length_toList]; have : s.data.size = s.size := rfl; omega
  rw [e] at h0
  have h1 := h0.right.left
  rw [hj, Nat.zero_add] at h1
  exact h1
theorem Has.extract {s : ByteArray} {j : Nat} {q : List UInt8} (h : Has s j q) : s.extract j (j + q.length) = ⟨q.toArray⟩ := by
  have h2 := Has.part s j q.length h.1
  have e : (s.data.toList.drop j).take q.length = q := by
    apply List.ext_getElem?
    intro k
    by_cases hk : k < q.length
    · have hl : k < ((s.data.toList.drop j).take q.length).length := by have h3 := h.1; have h5 : s.data.toList.length = s.size := Array.length_toList; rw [List.length_take, List.length_drop, h5]; omega
      have a := h2.2 k _ (List.getElem?_eq_getElem hl)
      have b := h.2 k _ (List.getElem?_eq_getElem hk)
      rw [List.getElem?_eq_getElem hl, List.getElem?_eq_getElem hk]
      congr 1
      exact UInt8.toNat_inj.1 (a.symm.trans b)
    · rw [List.getElem?_eq_none (by rw [List.length_take]; omega), List.getElem?_eq_none (by omega)]
  apply ByteArray.ext
  apply Array.ext'
  show (s.extract j (j + q.length)).data.toList = q
  rw [← e]
  simp [ByteArray.data_extract, List.extract_eq_take_drop, Nat.add_sub_cancel_left]

/-! ### letters -/
theorem decodeN_same {n m b0 b1 b2 b3 c1 c2 c3 r k : Nat} (h : Lib.decodeN n b0 b1 b2 b3 = (r, k)) (hv : ¬ (r = 65533 ∧ k = 1)) (e1 : 1 < k → c1 = b1) (e2 : 2 < k → c2 = b2) (e3 : 3 < k → c3 = b3) (hm : k ≤ m) : Lib.decodeN m b0 c1 c2 c3 = (r, k) := by
  rcases Lib.decodeN_shape n b0 b1 b2 b3 with ⟨c, e⟩ | ⟨a1, a2, a3, av, e⟩ | ⟨a1, a2, a3, a4, av, ax, e⟩ | ⟨a1, a2, a3, a4, a5, av, aw, e⟩ | e
  all_goals (rw [e] at h; obtain ⟨rfl, rfl⟩ := Prod.mk.inj h)
  · unfold Lib.decodeN; rw [if_pos c]
  · rw [e1 (by omega)]
    unfold Lib.decodeN; rw [if_neg (by omega), if_pos (by omega), if_pos (by omega)]
  · rw [e1 (by omega), e2 (by omega)]
    unfold Lib.decodeN; rw [if_neg (by omega), if_neg (by omega), if_pos (by omega), if_pos (by omega)]
  · rw [e1 (by omega), e2 (by omega), e3 (by omega)]
    unfold Lib.decodeN; rw [if_neg (by omega), if_neg (by omega), if_neg (by omega), if_pos (by omega), if_pos (by omega)]
  · exact absurd ⟨rfl, rfl⟩ hv
theorem decodeN_pos (n b0 b1 b2 b3 : Nat) : 1 ≤ (Lib.decodeN n b0 b1 b2 b3).2 := by
  rcases Lib.decodeN_shape n b0 b1 b2 b3 with ⟨c, e⟩ | ⟨a1, a2, a3, av, e⟩ | ⟨a1, a2, a3, a4, av, ax, e⟩ | ⟨a1, a2, a3, a4, a5, av, aw, e⟩ | e
  all_goals (rw [e]; simp)
theorem get_drop (l : List UInt8) (p k : Nat) : (l.drop p).getD k 0 = l.getD (p + k) 0 := by
  simp [List.getD, List.getElem?_drop]
/-- A letter at a place, copied elsewhere, is read as it. -/
theorem decode_same {l : List UInt8} {s : ByteArray} {j : Nat} (hne : l ≠ []) (hv : ¬ ((Lib.decodeL l).1 = 65533 ∧ (Lib.decodeL l).2 = 1)) (h : Has s j (l.take (Lib.decodeL l).2)) : Utf8.decode s j = Lib.decodeL l := by
  have hl : 0 < l.length := List.length_pos_iff.2 hne
  have hw := Lib.decodeN_width_le l.length (l.getD 0 0).toNat (l.getD 1 0).toNat (l.getD 2 0).toNat (l.getD 3 0).toNat hl
  have hd := Lib.decodeL_N l
  have hp := decodeN_pos l.length (l.getD 0 0).toNat (l.getD 1 0).toNat (l.getD 2 0).toNat (l.getD 3 0).toNat
  rw [hd] at hv h ⊢
  generalize hr : Lib.decodeN l.length (l.getD 0 0).toNat (l.getD 1 0).toNat (l.getD 2 0).toNat (l.getD 3 0).toNat = d at *
  obtain ⟨r, k⟩ := d
  simp only at hv h hw hp
  have hlen : (l.take k).length = k := by rw [List.length_take]; omega
  have hb := h.1
  rw [hlen] at hb
  have hk : ∀ i, i < k → (s.get! (j + i)).toNat = (l.getD i 0).toNat := by
    intro i hi
    have h2 := h.2 i (l.getD i 0) (by rw [List.getElem?_take, if_pos hi, List.getD, List.getElem?_eq_getElem (show i < l.length by omega)]; rfl)
    rw [byteAt_get (by omega)] at h2
    exact h2
  rw [Lib.decode_at]
  have h0 := hk 0 (by omega)
  rw [Nat.add_zero] at h0
  rw [h0]
  exact decodeN_same hr hv (fun h => hk 1 h) (fun h => hk 2 h) (fun h => hk 3 h) (by omega)

/-! ### a text in quotes -/
theorem hex_back : ∀ r : Fin 32, hexL 0 [48, 48, hexd (r.val / 16), hexd (r.val % 16)] = some r.val := by decide +kernel
theorem Has.unit {s : ByteArray} {j r : Nat} (hr : r < 32) (h : Has s j [92, 117, 48, 48, hexd (r / 16), hexd (r % 16)]) : unitAt s j = (r, true) := by
  have h1 := h.1
  simp only [List.length_cons, List.length_nil] at h1
  unfold unitAt
  rw [if_neg (by omega)]
  have e1 := Has.extract (q := [92, 117]) (Has.left (b := [48, 48, hexd (r / 16), hexd (r % 16)]) h)
  have e2 := Has.extract (q := [48, 48, hexd (r / 16), hexd (r % 16)]) (Has.right (a := [92, 117]) h)
  simp only [List.length_cons, List.length_nil, Nat.reduceAdd] at e1 e2
  rw [show j + 2 + 4 = j + 6 by omega] at e2
  rw [e1, if_pos rfl, e2]
  have := hex_back ⟨r, hr⟩
  simp only at this
  show (match hexL 0 [48, 48, hexd (r / 16), hexd (r % 16)] with | some v => (v, true) | none => (0, false)) = _
  rw [this]
/-- A letter as it is told in quotes is read as it. -/
theorem let_back {s : ByteArray} {j r : Nat} {q : List UInt8} (h : Has s j q) (hr : (quoteRune r = q ∧ r < 32) ∨ (r = 34 ∧ q = [92, 34]) ∨ (r = 92 ∧ q = [92, 92])) : byteAt s j ≠ 34 ∧ letAt s j = (r, q.length) ∧ 0 < q.length := by
  have key : ∀ (c : UInt8) (v : Nat) (rest : List UInt8), q = 92 :: c :: rest → shortEsc c.toNat = some v → byteAt s j ≠ 34 ∧ letAt s j = (v, 2) := by
    intro c v rest hq hv
    subst hq
    have h0 := h.head
    have h1 := h.tail.head
    have e0 : byteAt s j = 92 := h0.1
    refine ⟨by omega, ?_⟩
    unfold letAt escAt
    rw [if_neg (by omega), if_pos e0, if_neg (by omega), h1.1, hv]
  rcases hr with ⟨hq, hr⟩ | ⟨rfl, rfl⟩ | ⟨rfl, rfl⟩
  · have hall : r = 8 ∨ r = 9 ∨ r = 10 ∨ r = 12 ∨ r = 13 ∨ (r ≠ 8 ∧ r ≠ 9 ∧ r ≠ 10 ∧ r ≠ 12 ∧ r ≠ 13) := by omega
    rcases hall with rfl | rfl | rfl | rfl | rfl | ⟨n1, n2, n3, n4, n5⟩
    · have hq2 : q = [92, 98] := by rw [← hq]; rfl
      obtain ⟨a, b⟩ := key 98 8 [] hq2 rfl
      subst hq2; exact ⟨a, b, by simp⟩
    · have hq2 : q = [92, 116] := by rw [← hq]; rfl
      obtain ⟨a, b⟩ := key 116 9 [] hq2 rfl
      subst hq2; exact ⟨a, b, by simp⟩
    · have hq2 : q = [92, 110] := by rw [← hq]; rfl
      obtain ⟨a, b⟩ := key 110 10 [] hq2 rfl
      subst hq2; exact ⟨a, b, by simp⟩
    · have hq2 : q = [92, 102] := by rw [← hq]; rfl
      obtain ⟨a, b⟩ := key 102 12 [] hq2 rfl
      subst hq2; exact ⟨a, b, by simp⟩
    · have hq2 : q = [92, 114] := by rw [← hq]; rfl
      obtain ⟨a, b⟩ := key 114 13 [] hq2 rfl
      subst hq2; exact ⟨a, b, by simp⟩
    · have hq2 : q = [92, 117, 48, 48, hexd (r / 16), hexd (r % 16)] := by
        rw [← hq]
        unfold quoteRune
        rw [if_neg (by omega), if_neg (by omega), if_neg n1, if_neg n2, if_neg n3, if_neg n4, if_neg n5, if_pos hr]
      subst hq2
      have hu := Has.unit hr h
      have h0 := h.head
      have h1 := h.tail.head
      have e0 : byteAt s j = 92 := h0.1
      have e1 : byteAt s (j + 1) = 117 := h1.1
      refine ⟨by omega, ?_, by simp⟩
      unfold letAt escAt
      rw [if_neg (by omega), if_pos e0, if_neg (by omega), e1]
      show (if (unitAt s j).2 = false then (0, 0) else if (unitAt s j).1 < 55296 ∨ 57344 ≤ (unitAt s j).1 then ((unitAt s j).1, 6) else _) = _
      rw [hu, if_neg (by simp), if_pos (by simp only; omega)]
      rfl
  · obtain ⟨a, b⟩ := key 34 34 [] rfl rfl
    exact ⟨a, b, by simp⟩
  · obtain ⟨a, b⟩ := key 92 92 [] rfl rfl
    exact ⟨a, b, by simp⟩
end Go.Proofs.YtkdeleafgailhaaGreatDoor
end
section
set_option linter.unusedVariables false
set_option linter.unusedSimpArgs false
namespace Go.Proofs.YtkdeleafgailhaaGreatDoor
open Go Go.RowKit

theorem get_bang (t : ByteArray) (p : Nat) : t.get! p = t.data.toList.getD p 0 := by
  show t.data[p]! = _
  by_cases h : p < t.data.size
  · rw [getElem!_pos t.data p h, List.getD, List.getElem?_eq_getElem (by rw [Array.length_toList]; exact h)]
    simp
  · rw [getElem!_neg t.data p h, List.getD, List.getElem?_eq_none (by rw [Array.length_toList]; omega)]
    rfl
theorem decode_drop (t : ByteArray) (p : Nat) : Utf8.decode t p = Lib.decodeL (t.data.toList.drop p) := by
  rw [Lib.decode_at, Lib.decodeL_N, List.length_drop, Array.length_toList, get_drop, get_drop, get_drop, get_drop, get_bang, get_bang, get_bang, get_bang]
  rfl
theorem encodeRune_len (r : Int) : 1 ≤ (Lib.encodeRune r).length := by
  unfold Lib.encodeRune
  rw [List.length_map]
  exact (Lib.encodeRuneZ_length r).1
/-- The first byte of a letter that is neither small nor told apart. -/
theorem first_byte {l : List UInt8} {b : UInt8} {t : List UInt8} (hl : l = b :: t) (h32 : 32 ≤ (Lib.decodeL l).1) (h34 : (Lib.decodeL l).1 ≠ 34) (h92 : (Lib.decodeL l).1 ≠ 92) : 32 ≤ b.toNat ∧ b.toNat ≠ 34 ∧ b.toNat ≠ 92 := by
  subst hl
  by_cases hb : 128 ≤ b.toNat
  · omega
  · have e : Lib.decodeL (b :: t) = (b.toNat, 1) := by
      rw [Lib.decodeL_N]
      unfold Lib.decodeN
      simp only [List.getD_cons_zero]
      rw [if_pos (by omega)]
    rw [e] at h32 h34 h92
    exact ⟨h32, h34, h92⟩
theorem quoteRune_plain {r : Nat} (h32 : 32 ≤ r) (h34 : r ≠ 34) (h92 : r ≠ 92) : quoteRune r = Lib.encodeRune r := by
  unfold quoteRune
  rw [if_neg h34, if_neg h92, if_neg (by omega), if_neg (by omega), if_neg (by omega), if_neg (by omega), if_neg (by omega), if_neg (by omega)]
theorem quote_back (t : ByteArray) : ∀ (fuel pos : Nat) (s : ByteArray) (j n : Nat), Has s j (quoteFrom t fuel pos ++ [34]) → t.size ≤ pos + fuel → pos ≤ t.size → Lib.validD (t.data.toList.drop pos) = true → s.size < j + n →
    textF s n j (t.data.toList.take pos) = .ok t.data.toList (j + (quoteFrom t fuel pos).length + 1)
  | fuel, pos, s, j, n, h, hf, hp, hv, hn => by
    have hjs := h.1
    rw [List.length_append] at hjs
    simp only [List.length_cons, List.length_nil] at hjs
    obtain ⟨n, rfl⟩ : ∃ m, n = m + 1 := ⟨n - 1, by omega⟩
    by_cases hpos : pos < t.size
    · obtain ⟨fuel, rfl⟩ : ∃ m, fuel = m + 1 := ⟨fuel - 1, by omega⟩
      rw [quoteFrom, if_pos hpos, decode_drop] at h ⊢
      have hlen : (t.data.toList.drop pos).length = t.size - pos := by rw [List.length_drop, Array.length_toList]; rfl
      obtain ⟨b, tl, hl⟩ : ∃ b tl, t.data.toList.drop pos = b :: tl := by
        cases hc : t.data.toList.drop pos with
        | nil => rw [hc] at hlen; simp at hlen; omega
        | cons b tl => exact ⟨b, tl, rfl⟩
      have hne : t.data.toList.drop pos ≠ [] := by rw [hl]; simp
      rw [Lib.validD_step _ hne] at hv
      have hgood : ¬ ((Lib.decodeL (t.data.toList.drop pos)).1 = 65533 ∧ (Lib.decodeL (t.data.toList.drop pos)).2 = 1) := by
        intro hb; rw [if_pos hb] at hv; cases hv
      rw [if_neg hgood] at hv
      have henc := Lib.encode_decode _ hne hgood
      have hw : (Lib.decodeL (t.data.toList.drop pos)).2 ≤ t.size - pos ∧ 1 ≤ (Lib.decodeL (t.data.toList.drop pos)).2 := by
        rw [Lib.decodeL_N, ← hlen]
        have h1 := Lib.decodeN_width_le (t.data.toList.drop pos).length ((t.data.toList.drop pos).getD 0 0).toNat ((t.data.toList.drop pos).getD 1 0).toNat ((t.data.toList.drop pos).getD 2 0).toNat ((t.data.toList.drop pos).getD 3 0).toNat (by omega)
        have h2 := decodeN_pos (t.data.toList.drop pos).length ((t.data.toList.drop pos).getD 0 0).toNat ((t.data.toList.drop pos).getD 1 0).toNat ((t.data.toList.drop pos).getD 2 0).toNat ((t.data.toList.drop pos).getD 3 0).toNat
        omega
      obtain ⟨r, hr⟩ : ∃ r, (Lib.decodeL (t.data.toList.drop pos)).1 = r := ⟨_, rfl⟩
      obtain ⟨k, hk⟩ : ∃ k, (Lib.decodeL (t.data.toList.drop pos)).2 = k := ⟨_, rfl⟩
      rw [hr, hk] at h hgood henc
      rw [hk] at hw hv
      rw [hr, hk]
      rw [List.append_assoc] at h
      have key : byteAt s j ≠ 34 ∧ letAt s j = (r, (quoteRune r).length) ∧ 0 < (quoteRune r).length := by
        by_cases h34 : r = 34
        · exact let_back h.left (.inr (.inl ⟨h34, by subst h34; rfl⟩))
        by_cases h92 : r = 92
        · exact let_back h.left (.inr (.inr ⟨h92, by subst h92; rfl⟩))
        by_cases h32 : r < 32
        · exact let_back h.left (.inl ⟨rfl, h32⟩)
        · have hq := quoteRune_plain (r := r) (by omega) h34 h92
          have hL := h.left
          rw [hq, henc] at hL
          rw [hq, henc]
          have hfb := first_byte hl (by rw [hr]; omega) (by rw [hr]; exact h34) (by rw [hr]; exact h92)
          have hlk : ((t.data.toList.drop pos).take k).length = k := by rw [List.length_take, hlen]; omega
          have hb0 : byteAt s j = b.toNat := by
            have := hL.2 0 b (by rw [List.getElem?_take, if_pos (by omega), hl]; rfl)
            simpa using this
          have hds := decode_same hne (by rw [hr, hk]; exact hgood) (by rw [hk]; exact hL)
          have hjl := hL.1
          rw [hlk] at hjl
          refine ⟨by omega, ?_, by omega⟩
          unfold letAt
          rw [if_neg (by omega), if_neg (by omega), hds, hr, hk, if_neg hgood, hlk]
          exact Prod.ext hr hk
      obtain ⟨k1, k2, k3⟩ := key
      rw [textF, if_neg k1, k2, if_neg (by show ¬ (quoteRune r).length = 0; omega)]
      show textF s n (j + (quoteRune r).length) (t.data.toList.take pos ++ Lib.encodeRune (r : Int)) = _
      have hacc : t.data.toList.take pos ++ Lib.encodeRune (r : Int) = t.data.toList.take (pos + k) := by
        rw [henc, List.take_add]
      rw [hacc]
      have ih := quote_back t fuel (pos + k) s (j + (quoteRune r).length) n h.right (by omega) (by omega) (by rw [← List.drop_drop]; exact hv) (by omega)
      rw [ih, List.length_append]
      congr 1
      omega
    · have hq : quoteFrom t fuel pos = [] := by
        cases fuel with
        | zero => rfl
        | succ m => rw [quoteFrom, if_neg hpos]
      rw [hq] at h ⊢
      have h0 : byteAt s j = 34 := h.head.1
      rw [textF, if_pos h0]
      have htk : t.data.toList.take pos = t.data.toList := List.take_of_length_le (by rw [Array.length_toList]; show t.size ≤ pos; omega)
      rw [htk]
      rfl
/-- **A valid text, told in quotes, is read as it.** -/
theorem text_back {t s : ByteArray} {i : Nat} (hv : Lib.validD t.data.toList = true) (h : Has s i (quoted t)) : textAt s i = .ok t.data.toList (i + (quoted t).length) := by
  unfold quoted at h ⊢
  have := quote_back t t.size 0 s (i + 1) (s.size + 1) h.tail (by omega) (by omega) (by simpa using hv) (by omega)
  unfold textAt
  rw [List.take_zero] at this
  rw [this]
  simp only [List.length_cons, List.length_append, List.length_nil]
  congr 1
  omega

/-! ### clean gives what is valid -/
theorem bytes_nat (z : Int) (h : 0 ≤ z ∧ z < 256) : (z.toNat.toUInt8).toNat = z.toNat := by
  have : z.toNat < 256 := by omega
  simp [Nat.toUInt8, UInt8.toNat_ofNat', Nat.mod_eq_of_lt this]
theorem validD_enc (r : Nat) (h : r < 55296 ∨ (57343 < r ∧ r ≤ 1114111)) (l : List UInt8) : Lib.validD (Lib.encodeRune (r : Int) ++ l) = Lib.validD l := by
  have hne : Lib.encodeRune (r : Int) ++ l ≠ [] := by
    have := encodeRune_len (r : Int)
    intro e
    rw [List.append_eq_nil_iff] at e
    rw [e.1] at this
    simp at this
  have key : Lib.decodeL (Lib.encodeRune (r : Int) ++ l) = (r, (Lib.encodeRune (r : Int)).length) ∧ ¬ (r = 65533 ∧ (Lib.encodeRune (r : Int)).length = 1) := by
    unfold Lib.encodeRune
    by_cases h1 : r ≤ 127
    · rw [Lib.encodeRuneZ_one (by omega) (by omega)]
      refine ⟨?_, by omega⟩
      rw [Lib.decodeL_N]
      simp only [List.map_cons, List.map_nil, List.cons_append, List.nil_append, List.getD_cons_zero]
      rw [bytes_nat _ (by omega)]
      unfold Lib.decodeN
      rw [if_pos (by omega)]
      simp
    by_cases h2 : r ≤ 2047
    · rw [Lib.encodeRuneZ_two (by omega) (by omega)]
      refine ⟨?_, by simp⟩
      rw [Lib.decodeL_N]
      simp only [List.map_cons, List.map_nil, List.cons_append, List.nil_append, List.getD_cons_zero, List.getD_cons_succ, List.length_cons, List.length_append, List.length_nil]
      rw [bytes_nat _ (by omega), bytes_nat _ (by omega)]
      unfold Lib.decodeN
      rw [if_neg (by omega), if_pos (by omega), if_pos (by omega)]
      apply Prod.ext <;> simp only <;> omega
    by_cases h3 : r ≤ 65535
    · rw [Lib.encodeRuneZ_three (by omega)]
      refine ⟨?_, by simp⟩
      rw [Lib.decodeL_N]
      simp only [List.map_cons, List.map_nil, List.cons_append, List.nil_append, List.getD_cons_zero, List.getD_cons_succ, List.length_cons, List.length_append, List.length_nil]
      rw [bytes_nat _ (by omega), bytes_nat _ (by omega), bytes_nat _ (by omega)]
      unfold Lib.decodeN
      rw [if_neg (by omega), if_neg (by omega), if_pos (by omega), if_pos (by omega)]
      apply Prod.ext <;> simp only <;> omega
    · rw [Lib.encodeRuneZ_four (by omega) (by omega)]
      refine ⟨?_, by simp⟩
      rw [Lib.decodeL_N]
      simp only [List.map_cons, List.map_nil, List.cons_append, List.nil_append, List.getD_cons_zero, List.getD_cons_succ, List.length_cons, List.length_append, List.length_nil]
      rw [bytes_nat _ (by omega), bytes_nat _ (by omega), bytes_nat _ (by omega), bytes_nat _ (by omega)]
      unfold Lib.decodeN
      rw [if_neg (by omega), if_neg (by omega), if_neg (by omega), if_pos (by omega), if_pos (by omega)]
      apply Prod.ext <;> simp only <;> omega
  rw [Lib.validD_step _ hne, key.1, if_neg key.2, List.drop_left]
theorem cleanFrom_valid (s : ByteArray) : ∀ (fuel pos : Nat), Lib.validD (cleanFrom s fuel pos) = true
  | 0, pos => rfl
  | fuel + 1, pos => by
    rw [cleanFrom]
    split
    · rw [decode_drop, Lib.decodeL_N]
      rw [validD_enc]
      · exact cleanFrom_valid s fuel _
      · rcases Lib.decodeN_shape (s.data.toList.drop pos).length ((s.data.toList.drop pos).getD 0 0).toNat ((s.data.toList.drop pos).getD 1 0).toNat ((s.data.toList.drop pos).getD 2 0).toNat ((s.data.toList.drop pos).getD 3 0).toNat with ⟨c, e⟩ | ⟨a1, a2, a3, av, e⟩ | ⟨a1, a2, a3, a4, av, ax, e⟩ | ⟨a1, a2, a3, a4, a5, av, aw, e⟩ | e
        all_goals (rw [e]; simp only; omega)
    · rfl
theorem clean_valid (s : ByteArray) : Lib.validD (clean s).data.toList = true := by
  unfold clean
  split
  · assumption
  · exact cleanFrom_valid s _ _
theorem clean_of_valid {s : ByteArray} (h : Lib.validD s.data.toList = true) : clean s = s := by
  unfold clean
  rw [if_pos h]
end Go.Proofs.YtkdeleafgailhaaGreatDoor
end
section
set_option linter.unusedVariables false
set_option linter.unusedSimpArgs false
namespace Go.Proofs.YtkdeleafgailhaaGreatDoor
open Go Go.RowKit

/-! ### the one form of numbers -/
/-- A number in its one form. -/
def NumN (neg : Bool) (ds : ByteArray) (ex : Int) : Prop :=
  (neg = false ∧ ds = ⟨#[]⟩ ∧ ex = 0) ∨
  ((∀ c ∈ ds.data.toList, 48 ≤ c.toNat ∧ c.toNat ≤ 57) ∧ (∃ c q, ds.data.toList = c :: q ∧ c ≠ 48) ∧ (∃ c q, ds.data.toList.reverse = c :: q ∧ c ≠ 48) ∧ -9999 ≤ ex ∧ ex ≤ 9999)
theorem dropWhile_head {α : Type} (p : α → Bool) : ∀ (l : List α), l.dropWhile p = [] ∨ ∃ c q, l.dropWhile p = c :: q ∧ p c = false
  | [] => .inl rfl
  | a :: l => by
    rw [List.dropWhile_cons]
    cases h : p a with
    | true => exact dropWhile_head p l
    | false => exact .inr ⟨a, l, rfl, h⟩
theorem dropWhile_nil {α : Type} (p : α → Bool) : ∀ (l : List α), l.dropWhile p = [] → ∀ x ∈ l, p x = true
  | [], _, x, hx => by cases hx
  | a :: l, h, x, hx => by
    rw [List.dropWhile_cons] at h
    cases ha : p a with
    | true =>
      rw [ha] at h
      rcases List.mem_cons.1 hx with rfl | hx
      · exact ha
      · exact dropWhile_nil p l h x hx
    | false => rw [ha] at h; cases h
theorem beq48 (c : UInt8) : (c == 48) = false ↔ c ≠ 48 := by simp
theorem numN_form (neg : Bool) (ds : ByteArray) (ex : Int) : NumN (decForm neg ds ex).1.neg (decForm neg ds ex).1.digits (decForm neg ds ex).1.exp := by
  have hb := (decForm_bounds neg ds ex).2
  unfold decForm at hb ⊢
  split
  · exact .inl ⟨rfl, rfl, rfl⟩
  · rename_i h0
    split
    · exact .inl ⟨rfl, rfl, rfl⟩
    · split
      · exact .inl ⟨rfl, rfl, rfl⟩
      · rename_i h1 h2
        rw [if_neg h0, if_neg h1, if_neg h2] at hb
        refine .inr ?_
        show (∀ c ∈ (decShort (decBare ds)).data.toList, 48 ≤ c.toNat ∧ c.toNat ≤ 57) ∧ (∃ c q, (decShort (decBare ds)).data.toList = c :: q ∧ c ≠ 48) ∧ (∃ c q, (decShort (decBare ds)).data.toList.reverse = c :: q ∧ c ≠ 48) ∧ _
        have hB : (decBare ds).data.toList = (ds.data.toList.filter isDigitB).dropWhile (· == 48) := by rw [decBare_eq]
        have hS : (decShort (decBare ds)).data.toList = ((decBare ds).data.toList.reverse.dropWhile (· == 48)).reverse := by unfold decShort Lib.trimRightB; rfl
        have hdig : ∀ c ∈ (decBare ds).data.toList, 48 ≤ c.toNat ∧ c.toNat ≤ 57 := by
          intro c hc
          rw [hB] at hc
          have := (List.mem_filter.1 ((List.dropWhile_sublist _).subset hc)).2
          unfold isDigitB at this
          simp only [Bool.and_eq_true, decide_eq_true_eq] at this
          exact this
        have hne : (decBare ds).data.toList ≠ [] := by
          intro e
          apply h0
          have : (decBare ds).data.toList.length = (decBare ds).size := Array.length_toList
          rw [e] at this
          exact this.symm
        obtain ⟨c0, q0, e0, hc0⟩ : ∃ c q, (decBare ds).data.toList = c :: q ∧ c ≠ 48 := by
          rcases dropWhile_head (fun b : UInt8 => b == 48) (ds.data.toList.filter isDigitB) with h | ⟨c, q, h, hc⟩
          · rw [hB] at hne; exact absurd h hne
          · exact ⟨c, q, by rw [hB]; exact h, (beq48 c).1 hc⟩
        have hlast : ∃ c q, (decBare ds).data.toList.reverse.dropWhile (· == 48) = c :: q ∧ c ≠ 48 := by
          rcases dropWhile_head (fun b : UInt8 => b == 48) (decBare ds).data.toList.reverse with h | ⟨c, q, h, hc⟩
          · exfalso
            have : ∀ x ∈ (decBare ds).data.toList.reverse, (x == 48) = true := by
              intro x hx
              exact dropWhile_nil _ _ h x hx
            have h2 := this c0 (by rw [List.mem_reverse, e0]; exact .head _)
            exact hc0 (by simpa using h2)
          · exact ⟨c, q, h, (beq48 c).1 hc⟩
        refine ⟨?_, ?_, ?_, hb⟩
        · intro c hc
          rw [hS, List.mem_reverse] at hc
          exact hdig c (List.mem_reverse.1 ((List.dropWhile_sublist _).subset hc))
        · obtain ⟨c, q, e, hc⟩ := hlast
          obtain ⟨r, hr⟩ : ∃ r, r ++ (decBare ds).data.toList.reverse.dropWhile (· == 48) = (decBare ds).data.toList.reverse := (List.dropWhile_suffix _)
          have h3 : (decShort (decBare ds)).data.toList ++ r.reverse = c0 :: q0 := by
            rw [hS, ← e0, ← List.reverse_append, hr, List.reverse_reverse]
          cases hd : (decShort (decBare ds)).data.toList with
          | nil => rw [hS, e] at hd; simp at hd
          | cons a b =>
            rw [hd] at h3
            injection h3 with h4 h5
            subst h4
            exact ⟨a, b, rfl, hc0⟩
        · obtain ⟨c, q, e, hc⟩ := hlast
          exact ⟨c, q, by rw [hS, List.reverse_reverse]; exact e, hc⟩
theorem numN_bare {ds : ByteArray} (hd : ∀ c ∈ ds.data.toList, 48 ≤ c.toNat ∧ c.toNat ≤ 57) (h : ∃ c q, ds.data.toList = c :: q ∧ c ≠ 48) : decBare ds = ds := by
  rw [decBare_eq]
  have e1 : ds.data.toList.filter isDigitB = ds.data.toList := List.filter_eq_self.2 (fun c hc => by unfold isDigitB; simp [hd c hc])
  rw [e1]
  obtain ⟨c, q, e, hc⟩ := h
  have e2 : ds.data.toList.dropWhile (· == 48) = ds.data.toList := by rw [e, List.dropWhile_cons, (beq48 c).2 hc]; rfl
  rw [e2]
theorem numN_short {ds : ByteArray} (h : ∃ c q, ds.data.toList.reverse = c :: q ∧ c ≠ 48) : decShort ds = ds := by
  unfold decShort Lib.trimRightB
  obtain ⟨c, q, e, hc⟩ := h
  have e2 : ds.data.toList.reverse.dropWhile (· == 48) = ds.data.toList.reverse := by rw [e, List.dropWhile_cons, (beq48 c).2 hc]; rfl
  rw [e2, List.reverse_reverse]
theorem form_numN {neg : Bool} {ds : ByteArray} {ex : Int} (h : NumN neg ds ex) : decForm neg ds ex = (⟨neg, ds, ex⟩, true) := by
  rcases h with ⟨rfl, rfl, rfl⟩ | ⟨h1, h2, h3, h4, h5⟩
  · rfl
  · unfold decForm
    rw [numN_bare h1 h2]
    have hz : decDrop ds = 0 := by unfold decDrop; rw [numN_short h3]; omega
    have hne : ds.size ≠ 0 := by
      obtain ⟨c, q, e, _⟩ := h2
      have : ds.data.toList.length = ds.size := Array.length_toList
      rw [e] at this
      simp at this
      omega
    rw [if_neg hne, hz, if_neg (by omega), if_neg (by omega), numN_short h3]
    simp
/-- What a number in its one form is told as. -/
theorem text_numN {neg : Bool} {ds : ByteArray} {ex : Int} (h : NumN neg ds ex) : decText neg ds ex = if ds.size = 0 then [48] else (if neg = true then [45] else []) ++ ds.data.toList ++ (if ex = 0 then [] else 101 :: Lib.itoa ex) := by
  unfold decText decNorm
  rw [form_numN h]

/-! ### digits are read -/
theorem nFst_run (s : ByteArray) (neg : Bool) : ∀ (q : List UInt8) (c : UInt8) (n i : Nat) (bs : List Int), Has s i (c :: q) → (∀ x ∈ q, 48 ≤ x.toNat ∧ x.toNat ≤ 57) → isDg (byteAt s (i + 1 + q.length)) = false → q.length < n →
    nFst s n i neg bs = nBeh s (i + 1 + q.length) neg (bs ++ (c :: q).map (fun x => (x.toNat : Int)))
  | [], c, n + 1, i, bs, h, hd, he, hn => by
    rw [nFst]
    simp only [List.length_nil, Nat.add_zero] at he ⊢
    rw [if_neg (by rw [he]; simp), h.head.1]
    rfl
  | c2 :: q, c, n + 1, i, bs, h, hd, he, hn => by
    rw [nFst]
    have h2 := h.tail.head.1
    have hd2 := hd c2 (.head _)
    rw [if_pos (by rw [h2]; unfold isDg; simp [hd2]), h.head.1]
    simp only [List.length_cons] at he hn ⊢
    rw [nFst_run s neg q c2 n (i + 1) _ h.tail (fun x hx => hd x (.tail _ hx)) (by rw [show i + 1 + 1 + q.length = i + 1 + (q.length + 1) by omega]; exact he) (by omega)]
    rw [show i + 1 + 1 + q.length = i + 1 + (q.length + 1) by omega]
    congr 1
    simp
def foldD (tens : Int) (q : List UInt8) : Int := q.foldl (fun a c => nFar (10 * a + ((c.toNat : Int) - 48))) tens
theorem nDig_run (s : ByteArray) (neg : Bool) (bs : List Int) (exp sign : Int) : ∀ (q : List UInt8) (c : UInt8) (n i : Nat) (tens : Int), Has s i (c :: q) → (∀ x ∈ q, 48 ≤ x.toNat ∧ x.toNat ≤ 57) → isDg (byteAt s (i + 1 + q.length)) = false → q.length < n →
    nDig s n i neg bs exp sign tens = nEnd s (i + 1 + q.length) neg bs exp sign (foldD tens (c :: q))
  | [], c, n + 1, i, tens, h, hd, he, hn => by
    rw [nDig]
    simp only [List.length_nil, Nat.add_zero] at he ⊢
    rw [if_neg (by rw [he]; simp), h.head.1]
    rfl
  | c2 :: q, c, n + 1, i, tens, h, hd, he, hn => by
    rw [nDig]
    have h2 := h.tail.head.1
    have hd2 := hd c2 (.head _)
    rw [if_pos (by rw [h2]; unfold isDg; simp [hd2]), h.head.1]
    simp only [List.length_cons] at he hn ⊢
    rw [nDig_run s neg bs exp sign q c2 n (i + 1) _ h.tail (fun x hx => hd x (.tail _ hx)) (by rw [show i + 1 + 1 + q.length = i + 1 + (q.length + 1) by omega]; exact he) (by omega)]
    rw [show i + 1 + 1 + q.length = i + 1 + (q.length + 1) by omega]
    rfl
theorem digits_ok2 : ∀ a b : Fin 100, foldD 0 (Lib.decDigits (a.val * 100 + b.val)) = ((a.val * 100 + b.val : Nat) : Int) ∧ (Lib.decDigits (a.val * 100 + b.val)).all isDigitB = true ∧ (Lib.decDigits (a.val * 100 + b.val)).isEmpty = false := by decide +kernel
theorem digits_ok {u : Nat} (hu : u < 10000) : foldD 0 (Lib.decDigits u) = (u : Int) ∧ (∀ c ∈ Lib.decDigits u, 48 ≤ c.toNat ∧ c.toNat ≤ 57) ∧ ∃ c q, Lib.decDigits u = c :: q := by
  have h := digits_ok2 ⟨u / 100, by omega⟩ ⟨u % 100, by omega⟩
  have e : u / 100 * 100 + u % 100 = u := by omega
  simp only [e] at h
  obtain ⟨h1, h2, h3⟩ := h
  refine ⟨h1, fun c hc => ?_, ?_⟩
  · have := List.all_eq_true.1 h2 c hc
    unfold isDigitB at this
    simpa using this
  · cases hd : Lib.decDigits u with
    | nil => rw [hd] at h3; cases h3
    | cons c q => exact ⟨c, q, rfl⟩

/-! ### a numeral is read -/
theorem byteAt_end {s : ByteArray} {i : Nat} (h : s.size ≤ i) : byteAt s i = 0 := by
  unfold byteAt
  rw [dif_neg (by omega)]
/-- What stands behind the digits: the power. -/
theorem nPow_back {s : ByteArray} {i : Nat} {ex : Int} (h0 : -9999 ≤ ex) (h1 : ex ≤ 9999) (h : Has s i (if ex = 0 then [] else 101 :: Lib.itoa ex)) (hend : i + (if ex = 0 then [] else 101 :: Lib.itoa ex : List UInt8).length = s.size) (neg : Bool) (bs : List Int) :
    nPow s i neg bs 0 = some (neg, bs, ex) := by
  by_cases hz : ex = 0
  · rw [if_pos hz] at hend
    simp only [List.length_nil, Nat.add_zero] at hend
    unfold nPow nEnd
    rw [byteAt_end (by omega), if_neg (by omega), if_pos hend, hz]
    rfl
  · rw [if_neg hz] at h hend
    have e0 : byteAt s i = 101 := h.head.1
    unfold nPow
    rw [if_pos (.inl e0)]
    obtain ⟨hf, hd, c, q, hcq⟩ := digits_ok (u := ex.natAbs) (by omega)
    have hc := hd c (by rw [hcq]; exact .head _)
    have key : ∀ (p : Nat) (sign : Int), Has s p (c :: q) → p + (c :: q).length = s.size → nExp s p neg bs 0 sign = some (neg, bs, 0 + sign * ex.natAbs) := by
      intro p sign hp hpe
      simp only [List.length_cons] at hpe
      unfold nExp
      rw [if_pos (by rw [hp.head.1]; unfold isDg; simp [hc])]
      rw [nDig_run s neg bs 0 sign q c (s.size + 1) p 0 hp (fun x hx => hd x (by rw [hcq]; exact .tail _ hx)) (by rw [byteAt_end (by omega)]; rfl) (by omega)]
      unfold nEnd
      rw [if_pos (by omega), ← hcq, hf]
    by_cases hneg : ex < 0
    · have hi : Lib.itoa ex = 45 :: c :: q := by unfold Lib.itoa; rw [if_pos hneg, hcq]
      rw [hi] at h hend
      have e1 : byteAt s (i + 1) = 45 := h.tail.head.1
      rw [if_pos e1, key (i + 2) (-1) h.tail.tail (by simp only [List.length_cons] at hend ⊢; omega)]
      congr 3
      omega
    · have hi : Lib.itoa ex = c :: q := by unfold Lib.itoa; rw [if_neg hneg, ← hcq]; congr 1; omega
      rw [hi] at h hend
      have e1 : byteAt s (i + 1) = c.toNat := h.tail.head.1
      rw [if_neg (by omega), if_neg (by omega), key (i + 1) 1 h.tail (by simp only [List.length_cons] at hend ⊢; omega)]
      congr 3
      omega
theorem strOf_back (l : List UInt8) : strOfNums (l.map fun x => (x.toNat : Int)) = ⟨l.toArray⟩ := by
  unfold strOfNums
  congr 2
  rw [List.map_map]
  conv => rhs; rw [← List.map_id l]
  apply List.map_congr_left
  intro x _
  simp
theorem numeral_back {neg : Bool} {ds : ByteArray} {ex : Int} (h : NumN neg ds ex) : decParse ⟨(decText neg ds ex).toArray⟩ = .ok ⟨neg, ds, ex⟩ := by
  rw [text_numN h]
  rcases h with ⟨rfl, rfl, rfl⟩ | ⟨h1, h2, h3, h4, h5⟩
  · rfl
  · obtain ⟨c, q, e, hc⟩ := h2
    have hne : ds.size ≠ 0 := by
      have : ds.data.toList.length = ds.size := Array.length_toList
      rw [e] at this
      simp at this
      omega
    rw [if_neg hne]
    generalize hT : (if neg = true then [45] else []) ++ ds.data.toList ++ (if ex = 0 then [] else 101 :: Lib.itoa ex) = T
    generalize hs : (⟨T.toArray⟩ : ByteArray) = s
    have hall : Has s 0 T := by
      have := Has.all s
      have e2 : s.data.toList = T := by rw [← hs]
      rw [e2] at this
      exact this
    have hsz : s.size = T.length := by rw [← hs]; exact size_mk T
    have hc1 := h1 c (by rw [e]; exact .head _)
    have hc48 : c.toNat ≠ 48 := fun h => hc (UInt8.toNat_inj.1 h)
    have key : ∀ i, Has s i (ds.data.toList ++ (if ex = 0 then [] else 101 :: Lib.itoa ex)) → i + (ds.data.toList ++ (if ex = 0 then [] else 101 :: Lib.itoa ex : List UInt8)).length = s.size → nNum s i neg = some (neg, ds.data.toList.map (fun x => (x.toNat : Int)), ex) := by
      intro i hi hl
      rw [List.length_append] at hl
      have hL := hi.left
      have hR := hi.right
      rw [e] at hL
      have b0 : byteAt s i = c.toNat := hL.head.1
      have hlen : ds.data.toList.length = q.length + 1 := by rw [e]; rfl
      have hnd : byteAt s (i + ds.data.toList.length) = 0 ∨ byteAt s (i + ds.data.toList.length) = 101 := by
        by_cases hz : ex = 0
        · rw [if_pos hz] at hl
          exact .inl (byteAt_end (by simp only [List.length_nil] at hl; omega))
        · rw [if_neg hz] at hR
          exact .inr hR.head.1
      unfold nNum
      rw [if_neg (by omega), if_neg (by omega)]
      rw [nFst_run s neg q c (s.size + 1) i [] hL (fun x hx => h1 x (by rw [e]; exact .tail _ hx)) (by rw [show i + 1 + q.length = i + ds.data.toList.length by omega]; rcases hnd with hx | hx <;> rw [hx] <;> rfl) (by omega)]
      rw [show i + 1 + q.length = i + ds.data.toList.length by omega, List.nil_append, ← e]
      unfold nBeh
      rw [if_neg (by omega), nPow_back h4 h5 hR (by omega)]
    have hnum : numeral s = some (neg, ds.data.toList.map (fun x => (x.toNat : Int)), ex) := by
      unfold numeral
      rw [← hT] at hall hsz
      cases neg with
      | true =>
        simp only [if_true] at hall hsz key
        rw [List.append_assoc] at hall hsz
        rw [if_pos (show byteAt s 0 = 45 from hall.head.1)]
        exact key 1 hall.tail (by rw [hsz]; simp only [List.length_append, List.length_cons, List.length_nil]; try omega)
      | false =>
        simp only [Bool.false_eq_true, if_false, List.nil_append] at hall hsz
        have hL := hall.left
        rw [e] at hL
        have b0 : byteAt s 0 = c.toNat := hL.head.1
        rw [if_neg (by omega)]
        exact key 0 hall (by rw [hsz]; try omega)
    unfold decParse
    rw [hnum]
    simp only
    rw [strOf_back, show (⟨ds.data.toList.toArray⟩ : ByteArray) = ds by simp, form_numN (.inr ⟨h1, ⟨c, q, e, hc⟩, h3, h4, h5⟩)]
    rfl

/-! ### a number within a text -/
theorem numTo_run (s : ByteArray) : ∀ (q : List UInt8) (n i : Nat), Has s i q → (∀ c ∈ q, isNum c.toNat = true) → isNum (byteAt s (i + q.length)) = false → q.length < n → numTo s n i = i + q.length
  | [], n + 1, i, h, hq, he, hn => by
    rw [numTo]
    simp only [List.length_nil, Nat.add_zero] at he ⊢
    rw [if_neg (by rw [he]; simp)]
  | c :: q, n + 1, i, h, hq, he, hn => by
    rw [numTo]
    have h0 := h.head
    rw [if_pos ⟨h0.2, by rw [h0.1]; exact hq c (.head _)⟩]
    simp only [List.length_cons] at he hn ⊢
    rw [numTo_run s q n (i + 1) h.tail (fun x hx => hq x (.tail _ hx)) (by rw [show i + 1 + q.length = i + (q.length + 1) by omega]; exact he) (by omega)]
    omega
theorem isNum_digit {n : Nat} (h : 48 ≤ n ∧ n ≤ 57) : isNum n = true := by
  unfold isNum isDg
  simp [h]
theorem text_isNum {neg : Bool} {ds : ByteArray} {ex : Int} (h : NumN neg ds ex) : ∀ c ∈ decText neg ds ex, isNum c.toNat = true := by
  rw [text_numN h]
  rcases h with ⟨rfl, rfl, rfl⟩ | ⟨h1, h2, h3, h4, h5⟩
  · intro c hc
    have : c = 48 := by simpa [ByteArray.size] using hc
    subst this; rfl
  · have hne : ds.size ≠ 0 := by
      obtain ⟨c, q, e, hc⟩ := h2
      have : ds.data.toList.length = ds.size := Array.length_toList
      rw [e] at this
      simp at this
      omega
    rw [if_neg hne]
    intro c hc
    rcases List.mem_append.1 hc with hc | hc
    · rcases List.mem_append.1 hc with hc | hc
      · split at hc
        · have : c = 45 := by simpa using hc
          subst this; rfl
        · cases hc
      · exact isNum_digit (h1 c hc)
    · split at hc
      · cases hc
      · obtain ⟨_, hd, _⟩ := digits_ok (u := ex.natAbs) (by omega)
        rcases List.mem_cons.1 hc with rfl | hc
        · rfl
        · unfold Lib.itoa at hc
          split at hc
          · rcases List.mem_cons.1 hc with rfl | hc
            · rfl
            · exact isNum_digit (hd c hc)
          · rw [show ex.toNat = ex.natAbs by omega] at hc
            exact isNum_digit (hd c hc)
theorem text_first {neg : Bool} {ds : ByteArray} {ex : Int} (h : NumN neg ds ex) : ∃ c q, decText neg ds ex = c :: q ∧ (c.toNat = 45 ∨ (48 ≤ c.toNat ∧ c.toNat ≤ 57)) := by
  rw [text_numN h]
  rcases h with ⟨rfl, rfl, rfl⟩ | ⟨h1, ⟨c, q, e, hc⟩, h3, h4, h5⟩
  · exact ⟨48, [], rfl, by decide⟩
  · have hne : ds.size ≠ 0 := by
      have : ds.data.toList.length = ds.size := Array.length_toList
      rw [e] at this
      simp at this
      omega
    rw [if_neg hne, e]
    cases neg with
    | true => exact ⟨45, _, rfl, .inl rfl⟩
    | false => exact ⟨c, _, rfl, .inr (h1 c (by rw [e]; exact .head _))⟩
/-- **A number in its one form, told, is read as it.** -/
theorem number_back {neg : Bool} {ds : ByteArray} {ex : Int} (h : NumN neg ds ex) {s : ByteArray} {i : Nat} (hs : Has s i (decText neg ds ex)) (he : isNum (byteAt s (i + (decText neg ds ex).length)) = false) :
    numberAt s i = .ok (.mk 2 false neg ds ex ⟨#[]⟩ [] []) (i + (decText neg ds ex).length) := by
  unfold numberAt
  have hle := hs.1
  rw [numTo_run s _ (s.size + 1) i hs (text_isNum h) he (by omega), hs.extract, numeral_back h]
end Go.Proofs.YtkdeleafgailhaaGreatDoor
end
