/- voyageref01.Norm is dec's one form. The digits' form of voyageref01 is dec's: decForm. voyageref02.put is insF on rising fields. voyageref02.Norm at truths, numbers, texts and all else. voyageref02.Norm at lists. -/
import Derived.Test.YtkdeleafgailhaaGreatDoorN24
import Derived.Test.YtkdeleafgailhaaGreatDoorN20
import Derived.Test.YtkdeleafgailhaaGreatDoorN23
import Derived.Laws.Cover1
section
set_option linter.unusedVariables false
set_option linter.unusedSimpArgs false
namespace Go.Proofs.YtkdeleafgailhaaGreatDoor
open Go Go.RowKit Go.Proofs.YtkdeleafgailhaaGreatDoorW.PrintWords

/-- The digits of a text, the least one first, without noughts at the upper end. -/
def upD (s : ByteArray) : List Int := (digL s.data.toList).take (cutN (digL s.data.toList) (digL s.data.toList).length)
theorem cutN_last : ∀ (xs : List Int) (n : Nat), cutN xs n ≠ 0 → xs.getD (cutN xs n - 1) 0 ≠ 0
  | xs, 0, h => absurd rfl h
  | xs, n + 1, h => by
    rw [cutN] at h ⊢
    split
    · rename_i hz
      rw [if_pos hz] at h
      exact cutN_last xs n h
    · rename_i hz
      exact hz
theorem cutN_self {xs : List Int} {n : Nat} (h : n ≠ 0 → xs.getD (n - 1) 0 ≠ 0) : cutN xs n = n := by
  cases n with
  | zero => rfl
  | succ n =>
    have := h (by omega)
    rw [Nat.add_sub_cancel] at this
    rw [cutN, if_neg this]
theorem upD_len (s : ByteArray) : (upD s).length = cutN (digL s.data.toList) (digL s.data.toList).length := by
  unfold upD
  have := cutN_le (digL s.data.toList) (digL s.data.toList).length
  rw [List.length_take]; omega
theorem upD_size (s : ByteArray) : (upD s).length ≤ s.size := by
  rw [upD_len]
  have h1 := cutN_le (digL s.data.toList) (digL s.data.toList).length
  have h2 := digL_len s.data.toList
  have h3 : s.data.toList.length = s.size := Array.length_toList
  omega
theorem upD_top (s : ByteArray) (h : (upD s).length ≠ 0) : (upD s).getD ((upD s).length - 1) 0 ≠ 0 := by
  have hl := upD_len s
  rw [hl] at h ⊢
  have h1 := cutN_last _ _ h
  unfold upD
  rw [List.getD, List.getElem?_take_of_lt (by omega), ← List.getD]
  exact h1
theorem upD_cut (s : ByteArray) : cutN (upD s) (upD s).length = (upD s).length := cutN_self (upD_top s)
theorem upD_low (s : ByteArray) (h : (upD s).length ≠ 0) : lowN (upD s) < (upD s).length := lowN_lt (by omega) (upD_top s h)
theorem digL_dig (l : List UInt8) : ∀ x ∈ digL l, 0 ≤ x ∧ x ≤ 9 := by
  intro x hx
  unfold digL at hx
  obtain ⟨c, hc, rfl⟩ := List.mem_map.1 hx
  have := (List.mem_filter.1 hc).2
  unfold isDigitB at this
  have h2 : 48 ≤ c.toNat ∧ c.toNat ≤ 57 := by simpa using this
  omega
theorem upD_dig (s : ByteArray) : ∀ x ∈ upD s, 0 ≤ x ∧ x ≤ 9 := fun x hx => digL_dig _ x (List.mem_of_mem_take hx)

theorem digits_up (s : ByteArray) (w : World) (hs : s.size ≤ 17592186044416) :
    Calls Tryz.prog 75 #[.string s] w fun e w' => ∃ A c, e = .returned (.slice A (upD s).length c) ∧ ReadsInt w' .i64 A (upD s).length (upD s) ∧ (upD s).length ≤ c ∧ Below w.heap.size w w' := by
  refine (digits_any s w hs).mono ?_
  rintro e w' ⟨A, c, rfl, hR, hc, hb⟩
  have hle := cutN_le (digL s.data.toList) (digL s.data.toList).length
  have hT := hR.take_ _ hle
  rw [← upD_len] at hT hle
  refine ⟨A, c, by rw [upD_len], ?_, by omega, hb⟩
  unfold upD
  rw [upD_len] at hT
  rw [show ((digL s.data.toList).take (cutN (digL s.data.toList) (digL s.data.toList).length)).length = cutN (digL s.data.toList) (digL s.data.toList).length from upD_len s]
  exact hT

set_option maxRecDepth 100000 in
set_option maxHeartbeats 8000000 in
theorem norm01_any (neg : Bool) (ds : ByteArray) (ex : Int) (w : World) (hs : ds.size ≤ 17592186044416) (hx0 : -9223372036854775808 ≤ ex) (hx1 : ex ≤ 9223372036854775807) :
    Calls Tryz.prog 38 #[.agg #[.bool neg, .string ds, .int .i64 ex]] w fun e w' => e = .returned (.agg #[.bool (toldF neg (upD ds) ex).1.neg, .string (toldF neg (upD ds) ex).1.digits, .int .i64 (toldF neg (upD ds) ex).1.exp]) ∧ Below w.heap.size w w' := by
  obtain ⟨W0, hW0⟩ : ∃ W0, (w.alloc (.cells #[.bool neg, .string ds, .int .i64 ex] 23)).alloc (.cells #[.bool false, .string ⟨#[]⟩, .int .i64 0] 23) = W0 := ⟨_, rfl⟩
  have hs1 : (w.alloc (.cells #[.bool neg, .string ds, .int .i64 ex] 23)).heap.size = w.heap.size + 1 := Array.size_push _
  have hs0 : W0.heap.size = w.heap.size + 2 := by rw [← hW0]; rw [show ((w.alloc (.cells #[.bool neg, .string ds, .int .i64 ex] 23)).alloc (.cells #[.bool false, .string ⟨#[]⟩, .int .i64 0] 23)).heap.size = _ from Array.size_push _, hs1]
  have hB0 : Below w.heap.size w W0 := by rw [← hW0]; exact ((Below.refl _ w).alloc (Nat.le_refl _) _).alloc (by omega) _
  have hbd : W0.heap[w.heap.size]? = some (.cells #[.bool neg, .string ds, .int .i64 ex] 23 (0, 0)) := by
    rw [← hW0]
    have h1 := heap_alloc_new w (.cells #[.bool neg, .string ds, .int .i64 ex] 23)
    have h2 := ((Below.refl (w.heap.size + 1) (w.alloc (.cells #[.bool neg, .string ds, .int .i64 ex] 23))).alloc (by omega) (.cells #[.bool false, .string ⟨#[]⟩, .int .i64 0] 23)).block w.heap.size (by omega)
    exact h2.trans h1
  have hbr : W0.heap[w.heap.size + 1]? = some (.cells #[.bool false, .string ⟨#[]⟩, .int .i64 0] 23 (0, 0)) := by
    rw [← hW0, ← hs1]
    exact heap_alloc_new _ _
  have hxl := upD_size ds
  have hxc := upD_cut ds
  have hxw := upD_low ds
  have hxd := upD_dig ds
  have cD := fun (W : World) => digits_up ds W hs
  generalize upD ds = xs at *
  have cT := fun (A : Option Addr) (c : Nat) (W : World) (hR : ReadsInt W .i64 A xs.length xs) (hc : xs.length ≤ c) => told_any neg xs A c ex W hR hc (by omega) hxd hxc hxw hx0 hx1
  clear hxc hxw hxd
  generalize toldF neg xs ex = D at *
  generalize xs.length = n at *
  have hSof : ∀ W, Below W0.heap.size W0 W → W.cell? ⟨w.heap.size, 0, none⟩ = some (.bool neg) ∧ W.cell? ⟨w.heap.size, 1, none⟩ = some (.string ds) ∧ W.cell? ⟨w.heap.size, 2, none⟩ = some (.int .i64 ex) := fun W hb => by
    have h := cellAll ((hb.block w.heap.size (by omega)).trans hbd)
    exact ⟨h 0, h 1, h 2⟩
  have hB00 := (Below.refl W0.heap.size W0).drew
  have hS0 := hSof W0 (Below.refl _ _)
  have hS1 := hSof _ hB00
  replace hbr := Aside0.mk hbr
  replace hB0 := Aside0.mk hB0
  clear hbd
  go_enter Tryz.func38, Tryz.ntmps38
  go_wp2_with fail
  go_region_held3 (fun W' => W'.cell? ⟨w.heap.size, 0, none⟩ = some (.bool neg) ∧ W'.cell? ⟨w.heap.size, 1, none⟩ = some (.string ds) ∧ W'.cell? ⟨w.heap.size, 2, none⟩ = some (.int .i64 ex)) (first | exact hS0 | exact hS1 | exact hS4 | exact hS5 | exact hSof _ (hb4.alloc hb4.size _) | exact hSof _ (hb5.alloc hb5.size _) | exact hSof _ (hB00.alloc hB00.size _) | (simp [hS5, World.cell?_setCell_far, hne4, hne4', hne5, hne5', hs0]; done) | (simp [hS4, World.cell?_setCell_far, hne4, hne4', hs0]; done) | (simp [*]; done))
    (first
      | (go_at_call 75; refine (cD _).mono ?_; rintro e w4 ⟨A, c, rfl, hR4, hc4, hb4'⟩; have hb4 : Below W0.heap.size W0 w4 := (by first | exact hB00.trans (hb4'.mono hB00.size) | exact (hB00.alloc hB00.size _).trans (hb4'.mono (hB00.alloc hB00.size _).size)); have hS4 := hSof _ hb4; have hz4 : w.heap.size + 2 ≤ w4.heap.size := (by have := hb4.size; omega); have hne4 : ¬ w.heap.size = w4.heap.size := (by have := hb4.size; omega); have hne4' : ¬ w4.heap.size = w.heap.size := (by omega); (try (have hbn4 := (hb4'.block _ (by simp)).trans (heap_alloc_new _ _); (try rw [show W0.drew.heap.size = w.heap.size + 2 from hs0] at hbn4); (try rw [hs0] at hbn4); have hcn4 := cellAll hbn4; have hfn4 := frozenAll hbn4; replace hbn4 := Aside0.mk hbn4)))
      | (have k4 := hb4; go_at_call 74; refine (cT A c _ ?hh hc4).mono ?_; (case hh => (first | exact hR4 | exact hR4.below ((Below.refl _ _).alloc (Nat.le_refl _) _))); rintro e w5 ⟨rfl, hb5'⟩; have hb5 : Below W0.heap.size W0 w5 := (by first | exact hb4.trans (hb5'.mono hb4.size) | exact (hb4.alloc hb4.size _).trans (hb5'.mono (hb4.alloc hb4.size _).size)); have hS5 := hSof _ hb5; have hz5 : w.heap.size + 2 ≤ w5.heap.size := (by have := hb5.size; omega); have hne5 : ¬ w.heap.size = w5.heap.size := (by have := hb5.size; omega); have hne5' : ¬ w5.heap.size = w.heap.size := (by omega); have hbr5 := (hb5.block (w.heap.size + 1) (by omega)).trans hbr.out; have hcr5 := cellAll hbr5; have hfr5 := frozenAll hbr5; replace hbr5 := Aside0.mk hbr5; (first | (have hbn5 := (hb5'.block _ (blk_lt hbn4.out)).trans hbn4.out; have hcn5 := cellAll hbn5; have hfn5 := frozenAll hbn5; replace hbn5 := Aside0.mk hbn5) | (have hbn5 := (hb5'.block _ (by simp)).trans (heap_alloc_new _ _); have hcn5 := cellAll hbn5; have hfn5 := frozenAll hbn5; replace hbn5 := Aside0.mk hbn5) | skip)))
  all_goals (have hnr4 : ¬ w.heap.size + 1 = w4.heap.size := (by omega))
  all_goals (have hnr4' : ¬ w4.heap.size = w.heap.size + 1 := (by omega))
  all_goals (have hnr5 : ¬ w.heap.size + 1 = w5.heap.size := (by omega))
  all_goals (have hnr5' : ¬ w5.heap.size = w.heap.size + 1 := (by omega))
  all_goals (have hfin := hB0.out.trans (hb5.mono hB0.out.size))
  all_goals (replace hfin := Aside0.mk hfin)
  · have hX := ((((Below.refl (w.heap.size + 2) w5).alloc (by omega) (.cells #[.bool D.1.neg, .string D.1.digits, .int .i64 D.1.exp] 23)).block (w.heap.size + 1) (by omega)).trans hbr5.out)
    have hcX := cellAll hX
    have hfX := frozenAll hX
    replace hX := Aside0.mk hX
    go_wp2_with fail
    refine bodyPost_ret (v := .agg #[.bool D.1.neg, .string D.1.digits, .int .i64 D.1.exp]) (by simp [results, Tryz.results38, go_sem, hcX]) rfl ⟨rfl, ?_⟩
    exact below_set (below_set (below_set (hfin.out.alloc (by omega) _) (by simp)) (by simp)) (by simp)
  · have hX := ((show Below (w.heap.size + 2) w5 (((w5.setCell ⟨w4.heap.size, 0, none⟩ (.bool D.1.neg)).setCell ⟨w4.heap.size, 1, none⟩ (.string D.1.digits)).setCell ⟨w4.heap.size, 2, none⟩ (.int .i64 D.1.exp)) from low_setCells (Below.refl (w.heap.size + 2) w5) (by omega) [.bool D.1.neg, .string D.1.digits, .int .i64 D.1.exp] 0).block (w.heap.size + 1) (by omega)).trans hbr5.out
    have hcX := cellAll hX
    have hfX := frozenAll hX
    replace hX := Aside0.mk hX
    go_wp2_with fail
    refine bodyPost_ret (v := .agg #[.bool D.1.neg, .string D.1.digits, .int .i64 D.1.exp]) (by simp [results, Tryz.results38, go_sem, hcX]) rfl ⟨rfl, ?_⟩
    exact below_set (below_set (below_set (below_set (below_set (below_set hfin.out (by show _ ≤ w4.heap.size; omega)) (by show _ ≤ w4.heap.size; omega)) (by show _ ≤ w4.heap.size; omega)) (by simp)) (by simp)) (by simp)
  · have hX := ((show Below (w.heap.size + 2) w5 (((w5.setCell ⟨w.heap.size + 2, 0, none⟩ (.bool D.1.neg)).setCell ⟨w.heap.size + 2, 1, none⟩ (.string D.1.digits)).setCell ⟨w.heap.size + 2, 2, none⟩ (.int .i64 D.1.exp)) from low_setCells (Below.refl (w.heap.size + 2) w5) (Nat.le_refl _) [.bool D.1.neg, .string D.1.digits, .int .i64 D.1.exp] 0).block (w.heap.size + 1) (by omega)).trans hbr5.out
    have hcX := cellAll hX
    have hfX := frozenAll hX
    replace hX := Aside0.mk hX
    go_wp2_with fail
    refine bodyPost_ret (v := .agg #[.bool D.1.neg, .string D.1.digits, .int .i64 D.1.exp]) (by simp [results, Tryz.results38, go_sem, hcX]) rfl ⟨rfl, ?_⟩
    exact below_set (below_set (below_set (below_set (below_set (below_set hfin.out (by simp)) (by simp)) (by simp)) (by simp)) (by simp)) (by simp)
end Go.Proofs.YtkdeleafgailhaaGreatDoor
end
section
set_option linter.unusedVariables false
set_option linter.unusedSimpArgs false
namespace Go.Proofs.YtkdeleafgailhaaGreatDoor
open Go Go.RowKit

def dg (c : UInt8) : Int := (c.toNat : Int) - 48
theorem dg_zero (c : UInt8) : dg c = 0 ↔ c = 48 := by
  unfold dg
  have h48 : (48 : UInt8).toNat = 48 := rfl
  constructor
  · intro h
    apply UInt8.toNat_inj.1
    rw [h48]; omega
  · intro h
    rw [h, h48]; rfl
theorem dg_back (c : UInt8) : UInt8.ofNat (dg c + 48).toNat = c := by
  unfold dg
  rw [show ((c.toNat : Int) - 48 + 48).toNat = c.toNat by omega]
  exact UInt8.ofNat_toNat
theorem digL_eq (l : List UInt8) : digL l = ((l.filter isDigitB).reverse).map dg := by
  unfold digL
  rw [List.filter_reverse]
  rfl
theorem cutN_app (xs ys : List Int) : ∀ n, n ≤ xs.length → cutN (xs ++ ys) n = cutN xs n
  | 0, _ => rfl
  | n + 1, h => by
    rw [cutN, cutN, cutN_app xs ys n (by omega)]
    rw [List.getD, List.getElem?_append_left (by omega), ← List.getD]
theorem take_cut : ∀ (M : List UInt8), ((M.reverse).map dg).take (cutN ((M.reverse).map dg) ((M.reverse).map dg).length) = ((M.dropWhile (· == 48)).reverse).map dg
  | [] => rfl
  | c :: M => by
    have ih := take_cut M
    have hlen : ((M.reverse).map dg).length = M.length := by simp
    rw [List.reverse_cons, List.map_append]
    rw [List.length_append, hlen]
    rw [hlen] at ih
    show List.take (cutN _ (M.length + 1)) _ = _
    rw [cutN]
    have hg : (((M.reverse).map dg) ++ [dg c]).getD M.length 0 = dg c := by
      rw [List.getD, List.getElem?_append_right (by omega), hlen, Nat.sub_self]; rfl
    rw [show List.map dg [c] = [dg c] from rfl, hg]
    by_cases hc : c = 48
    · rw [if_pos ((dg_zero c).2 hc), cutN_app _ _ _ (by omega), List.take_append_of_le_length (by have := cutN_le ((M.reverse).map dg) M.length; omega), ih, List.dropWhile_cons, if_pos (by simp [hc])]
    · rw [if_neg (fun h => hc ((dg_zero c).1 h)), List.dropWhile_cons, if_neg (by simpa using hc)]
      rw [List.take_of_length_le (by simp)]
      rw [List.reverse_cons, List.map_append]; rfl
theorem upD_eq (s : ByteArray) : upD s = ((decBare s).data.toList.reverse).map dg := by
  unfold upD
  rw [digL_eq, take_cut, decBare_eq]
theorem lowN_drop : ∀ (xs : List Int), xs.drop (lowN xs) = xs.dropWhile (· == 0) ∧ lowN xs + (xs.dropWhile (· == 0)).length = xs.length
  | [] => ⟨rfl, rfl⟩
  | x :: xs => by
    have ih := lowN_drop xs
    rw [lowN]
    split
    · rename_i h
      rw [List.dropWhile_cons, if_pos (by simp [h])]
      refine ⟨ih.1, ?_⟩
      have := ih.2
      simp; omega
    · rename_i h
      rw [List.dropWhile_cons, if_neg (by simpa using h)]
      exact ⟨rfl, by simp⟩
theorem dropWhile_dg : ∀ (l : List UInt8), (l.map dg).dropWhile (· == 0) = (l.dropWhile (· == 48)).map dg
  | [] => rfl
  | c :: l => by
    rw [List.map_cons, List.dropWhile_cons, List.dropWhile_cons]
    by_cases hc : c = 48
    · rw [if_pos (by simp [(dg_zero c).2 hc]), if_pos (by simp [hc]), dropWhile_dg l]
    · rw [if_neg (by simpa using fun h => hc ((dg_zero c).1 h)), if_neg (by simpa using hc)]; rfl
theorem byte48_dg (l : List UInt8) : byte48 (l.map dg) = l := by
  unfold byte48
  rw [List.map_map]
  conv => rhs; rw [← List.map_id l]
  apply List.map_congr_left
  intro c _
  exact dg_back c
theorem told_form (neg : Bool) (s : ByteArray) (ex : Int) : toldF neg (upD s) ex = decForm neg s ex := by
  rw [upD_eq]
  unfold toldF decForm
  have hsz : (decBare s).size = (decBare s).data.toList.length := rfl
  have hsz2 : (decBare s).size = (decBare s).data.size := rfl
  have hlow := lowN_drop (((decBare s).data.toList.reverse).map dg)
  rw [dropWhile_dg] at hlow
  have hsh : (decShort (decBare s)).data.toList = (((decBare s).data.toList.reverse).dropWhile (· == 48)).reverse := rfl
  have hshl : (decShort (decBare s)).size = (((decBare s).data.toList.reverse).dropWhile (· == 48)).length := by
    have h1 : (decShort (decBare s)).size = (decShort (decBare s)).data.toList.length := (Array.length_toList).symm
    rw [h1, hsh, List.length_reverse]
  have hd : decDrop (decBare s) = (lowN (((decBare s).data.toList.reverse).map dg) : Int) := by
    unfold decDrop
    rw [hshl]
    have h2 := hlow.2
    rw [List.length_map, List.length_map, List.length_reverse] at h2
    have h3 : (decBare s).data.toList.length = (decBare s).size := Array.length_toList
    omega
  rw [hd]
  have hl : (((decBare s).data.toList.reverse).map dg).length = (decBare s).size := by
    rw [List.length_map, List.length_reverse]
    exact Array.length_toList
  rw [hl]
  by_cases h0 : (decBare s).size = 0
  · rw [if_pos h0, if_pos h0]
  · rw [if_neg h0, if_neg h0]
    rw [hlow.1, ← List.map_reverse, byte48_dg]
    generalize (lowN (((decBare s).data.toList.reverse).map dg) : Int) = W
    by_cases h1 : 9999 - W < ex
    · rw [if_pos (Or.inr h1), if_pos h1]
    · rw [if_neg h1]
      by_cases h2 : ex < -9999 - W
      · rw [if_pos (Or.inl h2), if_pos h2]
      · rw [if_neg (fun h => h.elim h2 h1), if_neg h2]
        rfl
theorem norm01_dec (neg : Bool) (ds : ByteArray) (ex : Int) (w : World) (hs : ds.size ≤ 17592186044416) (hx0 : -9223372036854775808 ≤ ex) (hx1 : ex ≤ 9223372036854775807) :
    Calls Tryz.prog 38 #[.agg #[.bool neg, .string ds, .int .i64 ex]] w fun e w' => e = .returned (.agg #[.bool (decNorm neg ds ex).neg, .string (decNorm neg ds ex).digits, .int .i64 (decNorm neg ds ex).exp]) ∧ Below w.heap.size w w' := by
  have := norm01_any neg ds ex w hs hx0 hx1
  rw [told_form] at this
  exact this
end Go.Proofs.YtkdeleafgailhaaGreatDoor
end
section
set_option linter.unusedVariables false
set_option linter.unusedSimpArgs false
namespace Go.Proofs.YtkdeleafgailhaaGreatDoor
open Go Go.RowKit Go.Proofs.YtkdeleafgailhaaGreatDoorW.PrintWords

theorem less_cmp : ∀ (a b : List UInt8), Op.bytesLess a b = decide (Lib.compareBytes a b < 0)
  | [], [] => rfl
  | [], _ :: _ => rfl
  | _ :: _, [] => rfl
  | a :: x, b :: y => by
    rw [Op.bytesLess, Lib.compareBytes, less_cmp x y]
    by_cases h1 : a < b
    · simp [h1]
    · by_cases h2 : b < a
      · have : ¬ a = b := fun e => by subst e; exact h1 h2
        simp [h1, h2, this]
      · have : a = b := UInt8.le_antisymm (UInt8.not_lt.1 h2) (UInt8.not_lt.1 h1)
        simp [h1, h2, this]
theorem less_B (a b : ByteArray) : Op.bytesLess a.toList b.toList = lessB a b := by
  rw [less_cmp, toList_eq, toList_eq]; rfl


theorem low_drewN {B : Nat} {a w : World} (h : Below B a w) (n : Nat) : Below B a (w.drewN n) := h.trans ⟨rfl, rfl, rfl, Nat.le_refl _, fun _ _ => rfl⟩
theorem put_own {v v1 : Value} {W : World} {B : Nat} (hat : v1.ownBlock = v.ownBlock ∨ ∃ b, v1.ownBlock = some b ∧ W.heap.size ≤ b) (hq : ∀ k, v.ownBlock = some k → B ≤ k) (hB : B ≤ W.heap.size) : ∀ k, v1.ownBlock = some k → B ≤ k := by
  intro k hk
  rcases hat with h | ⟨b, hb, hle⟩
  · rw [h] at hk; exact hq k hk
  · rw [hb] at hk
    injection hk with hk
    omega
set_option maxRecDepth 100000 in
set_option maxHeartbeats 8000000 in
theorem put01_any (base : Nat) (v : Value) (xs : List JF) (nm : ByteArray) (y : JV) (vl vf : Value) (w : World) (hR : kF.R 69 w base (fun _ => True) v xs) (hM : kV.M w base (fun _ => True) y (y.cells vl vf)) (hrise : Rising xs) (hbase : base ≤ w.heap.size) (hn : xs.length ≤ 4294967296) :
    Calls Tryz.prog 39 #[v, .agg (.string nm :: y.cells vl vf).toArray] w fun e w' => ∃ v1, e = .returned v1 ∧ kF.R 69 w' base (fun _ => True) v1 (insF xs nm y) ∧ Below w.heap.size w w' := by
  obtain ⟨VA, vc, rfl⟩ := Kd.R_slice hR
  have hspot := insF_spot hrise nm y
  have hpart := rising_part hrise nm
  obtain ⟨p, hp⟩ : ∃ p, spot xs nm = p := ⟨_, rfl⟩
  rw [hp] at hspot hpart
  have hafter : ∀ k x, xs[k]? = some x → p < k → x.name ≠ nm := by
    intro k x hx hk he
    have hlk : k < xs.length := by
      rcases Nat.lt_or_ge k xs.length with h | h
      · exact h
      · rw [List.getElem?_eq_none h] at hx; cases hx
    have hxp : xs[p]? = some (xs[p]'(by omega)) := List.getElem?_eq_getElem (by omega)
    have h1 := List.pairwise_iff_getElem.1 hrise p k (by omega) hlk hk
    have h2 := hpart.not p _ hxp (Nat.le_refl _)
    have hxk : xs[k]'hlk = x := by
      rw [List.getElem?_eq_getElem hlk] at hx
      injection hx
    rw [hxk, he, h2] at h1
    cases h1
  unfold JV.cells at hM ⊢
  obtain ⟨W0, hW0⟩ : ∃ W0, w.alloc (.cells #[.string nm, .int .i64 y.kind, .bool y.truth, .bool y.neg, .string y.digits, .int .i64 y.exp, .string y.text, vl, vf] 69) = W0 := ⟨_, rfl⟩
  have hs0 : W0.heap.size = w.heap.size + 1 := by rw [← hW0]; exact Array.size_push _
  have hB0 : Below w.heap.size w W0 := by rw [← hW0]; exact (Below.refl _ w).alloc (Nat.le_refl _) _
  have hbx : W0.heap[w.heap.size]? = some (.cells #[.string nm, .int .i64 y.kind, .bool y.truth, .bool y.neg, .string y.digits, .int .i64 y.exp, .string y.text, vl, vf] 69 (0, 0)) := by rw [← hW0]; exact heap_alloc_new w _
  have hR0 : kF.R 69 W0 base (fun k => k < W0.heap.size) (.slice VA xs.length vc) xs := Kd.R_mono (Kd.R_bound (Kd.R_below hR hB0)) (fun k hk => hk.2.2.1)
  have hM0 : kV.M W0 base (fun k => k < W0.heap.size) y [.int .i64 y.kind, .bool y.truth, .bool y.neg, .string y.digits, .int .i64 y.exp, .string y.text, vl, vf] := kV.M_mono (fun k hk => hk.2.2.1) (kV.M_bound (Kd.M_below hM hB0))
  have hRend := Kd.R_below hR hB0
  clear hR hM
  obtain ⟨n, hnl⟩ : ∃ n, xs.length = n := ⟨_, rfl⟩
  have hple := hpart.le
  rw [hnl] at hR0 hn hple hRend ⊢
  replace hnl := Aside0.mk hnl
  replace hspot := Aside0.mk hspot
  replace hpart := Aside0.mk hpart
  replace hB0 := Aside0.mk hB0
  replace hbx := Aside0.mk hbx
  replace hRend := Aside0.mk hRend
  replace hp := Aside0.mk hp
  go_enter Tryz.func39, Tryz.ntmps39
  go_wp2_with fail
  go_loopw [5, 6, 7] (fun q0 b0 i wr => ∃ (j : Nat) (q b : Value), i = .int .i64 j ∧ q = q0 ∧ b = b0 ∧ j ≤ n ∧ (∀ k, q.ownBlock = some k → W0.heap.size ≤ k) ∧ Below W0.heap.size W0 wr ∧ ((j ≤ p ∧ b = .bool false ∧ kF.R 69 wr base (fun _ => True) q (xs.take j)) ∨ (p < j ∧ b = .bool true ∧ (xs[p]?).any (fun f => sameB f.name nm) = false ∧ kF.R 69 wr base (fun _ => True) q (xs.take p ++ JF.mk nm y :: (xs.take j).drop p)))) (fun _ _ i _ => n - (intOf i).toNat)
  case atStart => exact ⟨0, _, _, rfl, rfl, rfl, Nat.zero_le _, (fun k hk => by simp [Value.ownBlock] at hk), Below.refl _ _, .inl ⟨Nat.zero_le _, rfl, R_nilF _ _ _⟩⟩
  case round =>
    obtain ⟨j, q, b, rfl, hqe, hbe, hj, hq, hB, hst⟩ := hrel
    subst hqe hbe
    have hbf := (hB.block w.heap.size (by omega)).trans hbx.out
    have hcf := cellAll hbf
    replace hbf := Aside0.mk hbf
    have hwm : base ≤ wr.heap.size := by have := hB.size; omega
    have hMf := hM0
    have hMw := kV.M_below hM0 hB
    by_cases hjn : j < n
    · obtain ⟨ad, c, x, A6, c6, A7, c7, hv, hx, hcs, hMx⟩ := at_FM (Kd.R_below hR0 hB) j (by rw [hnl.out]; exact hjn)
      obtain rfl : VA = some ad := by injection hv
      clear hv
      unfold JV.cells at hcs hMx
      obtain ⟨q0, q1, q2, q3, q4, q5, q6, q7, q8, _⟩ := hcs
      replace hMx := kV.M_mono (fun k hk => hk.1) hMx
      have htk : xs.take (j + 1) = xs.take j ++ [x] := by rw [List.take_add_one, hx, Option.toList_some]
      have hlk : (xs.take j).length = j := by rw [List.length_take, hnl.out]; omega
      have hlp : (xs.take p).length = p := by rw [List.length_take, hnl.out]; omega
      replace htk := Aside0.mk htk
      replace hlk := Aside0.mk hlk
      replace hlp := Aside0.mk hlp
      replace hMx := Aside0.mk hMx
      replace hMw := Aside0.mk hMw
      have hj1 : (j : Int) < (n : Int) := by omega
      have hj0 : (0 : Int) ≤ (j : Int) := by omega
      rcases Nat.lt_trichotomy j p with hlt | heqp | hgt
      · obtain ⟨_, rfl, hRq⟩ : j ≤ p ∧ b = .bool false ∧ kF.R 69 wr base (fun _ => True) q (xs.take j) := hst.elim id (fun h => absurd h.1 (by omega))
        clear hst
        have hless := hpart.out.less j x hx hlt
        have hne : x.name ≠ nm := fun e => by rw [e, lessB_irrefl] at hless; cases hless
        have heq := bytes_beq_no hne
        have hte := bytes_tne hne
        have hbl : Op.bytesLess x.name.toList nm.toList = true := by rw [less_B]; exact hless
        replace hx := Aside0.mk hx
        replace hless := Aside0.mk hless
        replace hne := Aside0.mk hne
        replace hRq := Aside0.mk hRq
        clear hMf
        have hMf := hM0
        go_wp2_with fail
        go_quiet (fail)
        go_wp2_with fail
        go_quiet (fail)
        go_wp2_with (first
          | ((with_reducible refine gate_builtin (b := .append) (xs := #[.tmp 39, .tmp 44]) rfl ?_); at_builtin; refine Kd.R_append kF (w0 := W0) base rfl (.tmp 39) (.tmp 44) 25 69 zF 128 rfl Tryz.underlying25 infoF rfl (by decide) (by omega) q (xs.take j) x [.string x.name, .int .i64 x.value.kind, .bool x.value.truth, .bool x.value.neg, .string x.value.digits, .int .i64 x.value.exp, .string x.value.text, .slice A6 x.value.list.length c6, .slice A7 x.value.fields.length c7] (fun _ => True) (fun k => k < W0.heap.size) rfl rfl ⟨[.string _], _, rfl, rfl, (kV.M_below hMx.out (low_drewN (Below.refl _ _) _))⟩ (fun k hk => ⟨trivial, fun e => Nat.lt_irrefl _ (Nat.lt_of_lt_of_le hk (hq k e.symm))⟩) (fun _ _ => trivial) (Kd.R_below hRq.out (low_drewN (Below.refl _ _) _)) ((low_drewN hB _).mono (by omega)) hwm ?aL ?_; (case aL => exact (by rw [hlk.out]; omega)); intro v2 w2 hR2 hBb2 hg2 hat2; have hq2 := put_own hat2 hq hB.size; have hB2 : Below W0.heap.size W0 w2 := pw_below_grown (low_drewN hB _) _ hB.size hg2 hq; have hMf2 := kV.M_below hMf (hB2); replace hMf2 := Aside0.mk hMf2; clear hBb2 hg2 hat2))
        go_roundw
        case rel => exact ⟨j + 1, _, _, by go_num, rfl, rfl, by omega, hq2, hB2, .inl ⟨by omega, rfl, by rw [htk.out]; exact hR2⟩⟩
        case measure => first | (simp [intOf]; done) | (simp [intOf]; omega)
      · subst heqp
        obtain ⟨_, rfl, hRq⟩ : j ≤ j ∧ b = .bool false ∧ kF.R 69 wr base (fun _ => True) q (xs.take j) := hst.elim id (fun h => absurd h.1 (by omega))
        clear hst
        have hnot := hpart.out.not j x hx (Nat.le_refl _)
        have hbl : Op.bytesLess x.name.toList nm.toList = false := by rw [less_B]; exact hnot
        by_cases hne : x.name = nm
        · have heq : (x.name.toList == nm.toList) = true := by rw [hne]; exact beq_self_eq_true _
          have hsame : sameB x.name nm = true := sameB_iff.2 hne
          have hins : insF xs nm y = xs := by rw [hspot.out, if_pos (by rw [hx]; exact hsame)]
          replace hins := Aside0.mk hins
          replace hx := Aside0.mk hx
          replace hnot := Aside0.mk hnot
          replace hsame := Aside0.mk hsame
          replace hne := Aside0.mk hne
          replace hRq := Aside0.mk hRq
          go_wp2_with fail
          go_quiet (fail)
          go_wp2_with fail
          go_ret
          exact ⟨_, rfl, by rw [hins.out]; exact Kd.R_below (Kd.R_below hRend.out hB) (low_drewN (Below.refl _ _) _), hB0.out.trans ((low_drewN hB _).mono (by omega))⟩
        · have heq := bytes_beq_no hne
          have hte := bytes_tne hne
          have hany : (xs[j]?).any (fun f => sameB f.name nm) = false := by
            rw [hx]
            cases hs : sameB x.name nm with
            | false => exact hs
            | true => exact absurd (sameB_iff.1 hs) hne
          replace hany := Aside0.mk hany
          replace hx := Aside0.mk hx
          replace hnot := Aside0.mk hnot
          replace hne := Aside0.mk hne
          replace hRq := Aside0.mk hRq
          go_wp2_with fail
          go_quiet (fail)
          go_wp2_with fail
          go_quiet (fail)
          go_wp2_with (first
            | ((with_reducible refine gate_builtin (b := .append) (xs := #[.tmp 39, .tmp 44]) rfl ?_); at_builtin; refine Kd.R_append kF (w0 := W0) base rfl (.tmp 39) (.tmp 44) 25 69 zF 128 rfl Tryz.underlying25 infoF rfl (by decide) (by omega) v2 (xs.take j ++ [JF.mk nm y]) x2 [.string x2.name, .int .i64 x2.value.kind, .bool x2.value.truth, .bool x2.value.neg, .string x2.value.digits, .int .i64 x2.value.exp, .string x2.value.text, .slice B6 x2.value.list.length d6, .slice B7 x2.value.fields.length d7] (fun _ => True) (fun k => k < W0.heap.size) rfl rfl ⟨[.string _], _, rfl, rfl, hMx2.out⟩ (fun k hk => ⟨trivial, fun e => Nat.lt_irrefl _ (Nat.lt_of_lt_of_le hk (hq2 k e.symm))⟩) (fun _ _ => trivial) hR2.out (hB2.mono (by omega)) hwm2 ?aL ?_; (case aL => exact (by rw [List.length_append, hlk.out]; simp; omega)); intro v3 w3 hR3 hBb3 hg3 hat3; have hq3 := put_own hat3 hq2 hB2s; have hB3 : Below W0.heap.size W0 w3 := pw_below_grown hB2 _ hB2s hg3 hq2; have hMf3 := kV.M_below hMf (hB3); replace hMf3 := Aside0.mk hMf3; clear hBb3 hg3 hat3)
            | ((with_reducible refine gate_builtin (b := .append) (xs := #[.tmp 35, .tmp 37]) rfl ?_); at_builtin; refine Kd.R_append kF (w0 := W0) base rfl (.tmp 35) (.tmp 37) 25 69 zF 128 rfl Tryz.underlying25 infoF rfl (by decide) (by omega) q (xs.take j) (JF.mk nm y) [.string nm, .int .i64 y.kind, .bool y.truth, .bool y.neg, .string y.digits, .int .i64 y.exp, .string y.text, vl, vf] (fun _ => True) (fun k => k < W0.heap.size) rfl rfl ⟨[.string _], _, rfl, rfl, (kV.M_below hMw.out (low_drewN (Below.refl _ _) _))⟩ (fun k hk => ⟨trivial, fun e => Nat.lt_irrefl _ (Nat.lt_of_lt_of_le hk (hq k e.symm))⟩) (fun _ _ => trivial) (Kd.R_below hRq.out (low_drewN (Below.refl _ _) _)) ((low_drewN hB _).mono (by omega)) hwm ?aL ?_; (case aL => exact (by rw [hlk.out]; omega)); intro v2 w2 hR2 hBb2 hg2 hat2; have hq2 := put_own hat2 hq hB.size; have hB2 : Below W0.heap.size W0 w2 := pw_below_grown (low_drewN hB _) _ hB.size hg2 hq; have hMf2 := kV.M_below hMf (hB2); replace hMf2 := Aside0.mk hMf2; clear hBb2 hg2 hat2; obtain ⟨ad2, cc2, x2, B6, d6, B7, d7, hv2, hx2, hcs2, hMx2⟩ := at_FM (Kd.R_below hR0 hB2) j (by rw [hnl.out]; exact hjn); have hxe : x2 = x := (by rw [hx.out] at hx2; injection hx2 with hx2; exact hx2.symm); subst hxe; have hae : ad = ad2 := (by injection hv2 with h1; injection h1); subst hae; clear hv2 hx2; unfold JV.cells at hcs2 hMx2; clear q0 q1 q2 q3 q4 q5 q6 q7 q8; obtain ⟨q0, q1, q2, q3, q4, q5, q6, q7, q8, _⟩ := hcs2; replace hMx2 := Aside0.mk (kV.M_mono (fun k hk => hk.1) hMx2); have hwm2 : base ≤ w2.heap.size := (by have := hB2.size; omega); have hB2s := hB2.size; replace hR2 := Aside0.mk hR2))
          go_roundw
          case rel => exact ⟨j + 1, _, _, by go_num, rfl, rfl, by omega, hq3, hB3, .inr ⟨by omega, rfl, hany.out, by
            rw [htk.out, List.drop_append_of_le_length (by rw [hlk.out]; exact Nat.le_refl _), List.drop_of_length_le (by rw [hlk.out]; exact Nat.le_refl _)]
            have h3 := hR3
            rw [List.append_assoc] at h3
            exact h3⟩⟩
          case measure => first | (simp [intOf]; done) | (simp [intOf]; omega)
      · obtain ⟨_, rfl, hany, hRq⟩ : p < j ∧ b = .bool true ∧ (xs[p]?).any (fun f => sameB f.name nm) = false ∧ kF.R 69 wr base (fun _ => True) q (xs.take p ++ JF.mk nm y :: (xs.take j).drop p) := hst.elim (fun h => absurd h.1 (by omega)) id
        clear hst
        have hne := hafter j x hx hgt
        have heq := bytes_beq_no hne
        have hte := bytes_tne hne
        replace hany := Aside0.mk hany
        replace hx := Aside0.mk hx
        replace hne := Aside0.mk hne
        replace hRq := Aside0.mk hRq
        go_wp2_with fail
        go_quiet (fail)
        go_wp2_with fail
        go_quiet (fail)
        go_wp2_with (first
          | ((with_reducible refine gate_builtin (b := .append) (xs := #[.tmp 39, .tmp 44]) rfl ?_); at_builtin; refine Kd.R_append kF (w0 := W0) base rfl (.tmp 39) (.tmp 44) 25 69 zF 128 rfl Tryz.underlying25 infoF rfl (by decide) (by omega) q (xs.take p ++ JF.mk nm y :: (xs.take j).drop p) x [.string x.name, .int .i64 x.value.kind, .bool x.value.truth, .bool x.value.neg, .string x.value.digits, .int .i64 x.value.exp, .string x.value.text, .slice A6 x.value.list.length c6, .slice A7 x.value.fields.length c7] (fun _ => True) (fun k => k < W0.heap.size) rfl rfl ⟨[.string _], _, rfl, rfl, (kV.M_below hMx.out (low_drewN (Below.refl _ _) _))⟩ (fun k hk => ⟨trivial, fun e => Nat.lt_irrefl _ (Nat.lt_of_lt_of_le hk (hq k e.symm))⟩) (fun _ _ => trivial) (Kd.R_below hRq.out (low_drewN (Below.refl _ _) _)) ((low_drewN hB _).mono (by omega)) hwm ?aL ?_; (case aL => exact (by rw [List.length_append, hlp.out, List.length_cons, List.length_drop, hlk.out]; omega)); intro v2 w2 hR2 hBb2 hg2 hat2; have hq2 := put_own hat2 hq hB.size; have hB2 : Below W0.heap.size W0 w2 := pw_below_grown (low_drewN hB _) _ hB.size hg2 hq; have hMf2 := kV.M_below hMf (hB2); replace hMf2 := Aside0.mk hMf2; clear hBb2 hg2 hat2))
        go_roundw
        case rel => exact ⟨j + 1, _, _, by go_num, rfl, rfl, by omega, hq2, hB2, .inr ⟨by omega, rfl, hany.out, by
          rw [htk.out, List.drop_append_of_le_length (by rw [hlk.out]; omega)]
          have h3 := hR2
          rw [List.append_assoc, List.cons_append] at h3
          exact h3⟩⟩
        case measure => first | (simp [intOf]; done) | (simp [intOf]; omega)
    · obtain rfl : j = n := by omega
      have hall : xs.take j = xs := by rw [← hnl.out]; exact List.take_length
      rw [hall] at hst
      rcases Nat.lt_or_ge p j with hlt | hge
      · obtain ⟨_, rfl, hany, hRq⟩ : p < j ∧ b = .bool true ∧ (xs[p]?).any (fun f => sameB f.name nm) = false ∧ kF.R 69 wr base (fun _ => True) q (xs.take p ++ JF.mk nm y :: xs.drop p) := hst.elim (fun h => absurd h.1 (by omega)) id
        clear hst
        have hins : insF xs nm y = xs.take p ++ JF.mk nm y :: xs.drop p := by rw [hspot.out, if_neg (by rw [hany]; simp)]
        replace hins := Aside0.mk hins
        replace hany := Aside0.mk hany
        replace hRq := Aside0.mk hRq
        clear hall
        go_wp2_with fail
        go_ret
        exact ⟨_, rfl, by rw [hins.out]; exact hRq.out, hB0.out.trans (hB.mono (by omega))⟩
      · obtain rfl : p = j := by omega
        obtain ⟨_, rfl, hRq⟩ : p ≤ p ∧ b = .bool false ∧ kF.R 69 wr base (fun _ => True) q xs := hst.elim id (fun h => absurd h.1 (by omega))
        clear hst
        have hins : insF xs nm y = xs ++ [JF.mk nm y] := by
          rw [hspot.out, List.getElem?_eq_none (by rw [hnl.out]; exact Nat.le_refl _), if_neg (by simp), hall, List.drop_of_length_le (by rw [hnl.out]; exact Nat.le_refl _)]
        replace hins := Aside0.mk hins
        replace hRq := Aside0.mk hRq
        replace hMw := Aside0.mk hMw
        clear hall
        go_wp2_with (first
          | ((with_reducible refine gate_builtin (b := .append) (xs := #[.tmp 48, .tmp 50]) rfl ?_); at_builtin; refine Kd.R_append kF (w0 := W0) base rfl (.tmp 48) (.tmp 50) 25 69 zF 128 rfl Tryz.underlying25 infoF rfl (by decide) (by omega) q xs (JF.mk nm y) [.string nm, .int .i64 y.kind, .bool y.truth, .bool y.neg, .string y.digits, .int .i64 y.exp, .string y.text, vl, vf] (fun _ => True) (fun k => k < W0.heap.size) rfl rfl ⟨[.string _], _, rfl, rfl, hMw.out⟩ (fun k hk => ⟨trivial, fun e => Nat.lt_irrefl _ (Nat.lt_of_lt_of_le hk (hq k e.symm))⟩) (fun _ _ => trivial) hRq.out (hB.mono (by omega)) hwm ?aL ?_; (case aL => exact (by rw [hnl.out]; omega)); intro v2 w2 hR2 hBb2 hg2 hat2; have hq2 := put_own hat2 hq hB.size; have hB2 : Below W0.heap.size W0 w2 := pw_below_grown hB _ hB.size hg2 hq; have hMf2 := kV.M_below hMf (hB2); replace hMf2 := Aside0.mk hMf2; clear hBb2 hg2 hat2))
        go_ret
        exact ⟨_, rfl, by rw [hins.out]; exact hR2, hB0.out.trans (hB2.mono (by omega))⟩
end Go.Proofs.YtkdeleafgailhaaGreatDoor
end
section
set_option linter.unusedVariables false
set_option linter.unusedSimpArgs false
namespace Go.Proofs.YtkdeleafgailhaaGreatDoor
open Go Go.RowKit Go.Proofs.YtkdeleafgailhaaGreatDoorW.PrintWords

def RNormOK (x : JV) : Prop := ∀ (w : World) (cs : List Value), kV.K w x cs → x.wt ≤ 4294967296 → x.ints →
  Calls Tryz.prog 18 #[.agg cs.toArray] w fun e w' => ∃ cs', e = .returned (.agg cs'.toArray) ∧ kV.M w' w.heap.size (fun _ => True) x.norm cs' ∧ Below w.heap.size w w'

set_option maxRecDepth 100000 in
set_option maxHeartbeats 4000000 in
theorem rnorm_one (w : World) (t ng : Bool) (ds tx : ByteArray) (ex : Int) (A B : Option Addr) (nl c nf d : Nat) :
    Calls Tryz.prog 18 #[.agg #[.int .i64 1, .bool t, .bool ng, .string ds, .int .i64 ex, .string tx, .slice A nl c, .slice B nf d]] w fun e w' => ∃ cs', e = .returned (.agg cs'.toArray) ∧ kV.M w' w.heap.size (fun _ => True) (.mk 1 t false ⟨#[]⟩ 0 ⟨#[]⟩ [] []) cs' ∧ Below w.heap.size w w' := by
  go_enter Tryz.func18, Tryz.ntmps18
  go_wp2_with fail
  refine bodyPost_ret (v := .agg #[.int .i64 1, .bool t, .bool false, .string ⟨#[]⟩, .int .i64 0, .string ⟨#[]⟩, .slice none 0 0, .slice none 0 0]) (by simp [results, Tryz.results18, go_sem]) rfl ⟨_, rfl, kV_mkM (x := .mk 1 t false ⟨#[]⟩ 0 ⟨#[]⟩ [] []) (R_nilV _ _ _) (R_nilF _ _ _), ((Below.refl _ w).alloc (Nat.le_refl _) _).alloc (by simp) _⟩

set_option maxRecDepth 100000 in
set_option maxHeartbeats 4000000 in
theorem rnorm_rest (w : World) (k : Int) (t ng : Bool) (ds tx : ByteArray) (ex : Int) (A B : Option Addr) (nl c nf d : Nat) (h1 : ¬ k = 1) (h2 : ¬ k = 2) (h3 : ¬ k = 3) (h4 : ¬ k = 4) (h5 : ¬ k = 5) :
    Calls Tryz.prog 18 #[.agg #[.int .i64 k, .bool t, .bool ng, .string ds, .int .i64 ex, .string tx, .slice A nl c, .slice B nf d]] w fun e w' => ∃ cs', e = .returned (.agg cs'.toArray) ∧ kV.M w' w.heap.size (fun _ => True) JV.nul cs' ∧ Below w.heap.size w w' := by
  have b1 : (k == 1) = false := by simpa using h1
  have b2 : (k == 2) = false := by simpa using h2
  have b3 : (k == 3) = false := by simpa using h3
  have b4 : (k == 4) = false := by simpa using h4
  have b5 : (k == 5) = false := by simpa using h5
  go_enter Tryz.func18, Tryz.ntmps18
  go_wp2_with fail
  refine bodyPost_ret (v := .agg #[.int .i64 0, .bool false, .bool false, .string ⟨#[]⟩, .int .i64 0, .string ⟨#[]⟩, .slice none 0 0, .slice none 0 0]) (by simp [results, Tryz.results18, go_sem]) rfl ⟨_, rfl, kV_mkM (x := JV.nul) (R_nilV _ _ _) (R_nilF _ _ _), ((Below.refl _ w).alloc (Nat.le_refl _) _).alloc (by simp) _⟩

set_option maxRecDepth 100000 in
set_option maxHeartbeats 4000000 in
theorem rnorm_num (w : World) (t ng : Bool) (ds tx : ByteArray) (ex : Int) (A B : Option Addr) (nl c nf d : Nat) (hs : ds.size ≤ 4294967296) (he0 : -9223372036854775808 ≤ ex) (he1 : ex ≤ 9223372036854775807) :
    Calls Tryz.prog 18 #[.agg #[.int .i64 2, .bool t, .bool ng, .string ds, .int .i64 ex, .string tx, .slice A nl c, .slice B nf d]] w fun e w' => ∃ cs', e = .returned (.agg cs'.toArray) ∧ kV.M w' w.heap.size (fun _ => True) (.mk 2 false (decNorm ng ds ex).neg (decNorm ng ds ex).digits (decNorm ng ds ex).exp ⟨#[]⟩ [] []) cs' ∧ Below w.heap.size w w' := by
  have hB0 := ((Below.refl _ w).alloc (Nat.le_refl _) (.cells #[.int .i64 2, .bool t, .bool ng, .string ds, .int .i64 ex, .string tx, .slice A nl c, .slice B nf d] 27)).alloc (by simp) (.cells #[.int .i64 0, .bool false, .bool false, .string ⟨#[]⟩, .int .i64 0, .string ⟨#[]⟩, .slice none 0 0, .slice none 0 0] 27)
  obtain ⟨e0, e1⟩ := boxes' w (.cells #[.int .i64 2, .bool t, .bool ng, .string ds, .int .i64 ex, .string tx, .slice A nl c, .slice B nf d] 27) (.cells #[.int .i64 0, .bool false, .bool false, .string ⟨#[]⟩, .int .i64 0, .string ⟨#[]⟩, .slice none 0 0, .slice none 0 0] 27)
  replace e0 := Aside0.mk e0
  replace e1 := Aside0.mk e1
  have cN := fun W => norm01_dec ng ds ex W (by omega) he0 he1
  generalize decNorm ng ds ex = D at cN ⊢
  replace hB0 := Aside0.mk hB0
  go_enter Tryz.func18, Tryz.ntmps18
  go_wp2_with (go_at_call 38; refine (cN _).mono ?_; rintro e w' ⟨rfl, hb⟩; have hb0 := (hb.block w.heap.size (by simp <;> omega)).trans e0.out; have hb1 := (hb.block (w.heap.size + 1) (by simp <;> omega)).trans e1.out; have hc0 := cellAll hb0; have hf0 := frozenAll hb0; have hc1 := cellAll hb1; have hf1 := frozenAll hb1; clear hb0 hb1)
  all_goals (refine bodyPost_ret (v := .agg #[.int .i64 2, .bool false, .bool D.neg, .string D.digits, .int .i64 D.exp, .string ⟨#[]⟩, .slice none 0 0, .slice none 0 0]) (by simp [results, Tryz.results18, go_sem, hc1]) rfl ⟨[.int .i64 2, .bool false, .bool D.neg, .string D.digits, .int .i64 D.exp, .string ⟨#[]⟩, .slice none 0 0, .slice none 0 0], rfl, ?_, ?_⟩)
  all_goals (first
    | (iterate 8 refine below_set ?_ (by omega)
       exact (hB0.out).trans (hb.mono (by simp <;> omega)))
    | exact kV_mkM (x := .mk 2 false D.neg D.digits D.exp ⟨#[]⟩ [] []) (R_nilV _ _ _) (R_nilF _ _ _))

set_option maxRecDepth 100000 in
set_option maxHeartbeats 4000000 in
theorem rnorm_text (w : World) (t ng : Bool) (ds tx : ByteArray) (ex : Int) (A B : Option Addr) (nl c nf d : Nat) (hs : tx.size ≤ 4294967296) :
    Calls Tryz.prog 18 #[.agg #[.int .i64 3, .bool t, .bool ng, .string ds, .int .i64 ex, .string tx, .slice A nl c, .slice B nf d]] w fun e w' => ∃ cs', e = .returned (.agg cs'.toArray) ∧ kV.M w' w.heap.size (fun _ => True) (.mk 3 false false ⟨#[]⟩ 0 (clean tx) [] []) cs' ∧ Below w.heap.size w w' := by
  have hB0 := ((Below.refl _ w).alloc (Nat.le_refl _) (.cells #[.int .i64 3, .bool t, .bool ng, .string ds, .int .i64 ex, .string tx, .slice A nl c, .slice B nf d] 27)).alloc (by simp) (.cells #[.int .i64 0, .bool false, .bool false, .string ⟨#[]⟩, .int .i64 0, .string ⟨#[]⟩, .slice none 0 0, .slice none 0 0] 27)
  obtain ⟨e0, e1⟩ := boxes' w (.cells #[.int .i64 3, .bool t, .bool ng, .string ds, .int .i64 ex, .string tx, .slice A nl c, .slice B nf d] 27) (.cells #[.int .i64 0, .bool false, .bool false, .string ⟨#[]⟩, .int .i64 0, .string ⟨#[]⟩, .slice none 0 0, .slice none 0 0] 27)
  replace e0 := Aside0.mk e0
  replace e1 := Aside0.mk e1
  have cN := fun W => rClean_any tx W (by omega)
  generalize clean tx = D at cN ⊢
  replace hB0 := Aside0.mk hB0
  go_enter Tryz.func18, Tryz.ntmps18
  go_wp2_with (go_at_call 37; refine (cN _).mono ?_; rintro e w' ⟨rfl, hb⟩; have hb0 := (hb.block w.heap.size (by simp <;> omega)).trans e0.out; have hb1 := (hb.block (w.heap.size + 1) (by simp <;> omega)).trans e1.out; have hc0 := cellAll hb0; have hf0 := frozenAll hb0; have hc1 := cellAll hb1; have hf1 := frozenAll hb1; clear hb0 hb1)
  all_goals (refine bodyPost_ret (v := .agg #[.int .i64 3, .bool false, .bool false, .string ⟨#[]⟩, .int .i64 0, .string D, .slice none 0 0, .slice none 0 0]) (by simp [results, Tryz.results18, go_sem, hc1]) rfl ⟨[.int .i64 3, .bool false, .bool false, .string ⟨#[]⟩, .int .i64 0, .string D, .slice none 0 0, .slice none 0 0], rfl, ?_, ?_⟩)
  all_goals (first
    | (iterate 8 refine below_set ?_ (by omega)
       exact (hB0.out).trans (hb.mono (by simp <;> omega)))
    | exact kV_mkM (x := .mk 3 false false ⟨#[]⟩ 0 D [] []) (R_nilV _ _ _) (R_nilF _ _ _))

end Go.Proofs.YtkdeleafgailhaaGreatDoor
end
section
set_option linter.unusedVariables false
set_option linter.unusedSimpArgs false
namespace Go.Proofs.YtkdeleafgailhaaGreatDoor
open Go Go.RowKit Go.Proofs.YtkdeleafgailhaaGreatDoorW.PrintWords

theorem set_far {B : Nat} {a w : World} (h : Below B a w) {b j : Nat} (hb : B ≤ b) (v : Value) : Below B a (w.setCell ⟨b, j, none⟩ v) := h.setCell (by simpa using hb) _

set_option maxRecDepth 100000 in
set_option maxHeartbeats 8000000 in
theorem rnorm_list (w : World) (t ng : Bool) (ds tx : ByteArray) (ex : Int) (A B : Option Addr) (nl c nf d : Nat) (xs : List JV) (hC : kV.C w A nl xs) (hnc : nl ≤ c) (hok : ∀ y ∈ xs, RNormOK y) (hwt : JV.wtL xs ≤ 4294967296) (hin : JV.intsL xs) :
    Calls Tryz.prog 18 #[.agg #[.int .i64 4, .bool t, .bool ng, .string ds, .int .i64 ex, .string tx, .slice A nl c, .slice B nf d]] w fun e w' => ∃ cs', e = .returned (.agg cs'.toArray) ∧ kV.M w' w.heap.size (fun _ => True) (.mk 4 false false ⟨#[]⟩ 0 ⟨#[]⟩ (JV.normL xs) []) cs' ∧ Below w.heap.size w w' := by
  have hB0 := ((Below.refl _ w).alloc (Nat.le_refl _) (.cells #[.int .i64 4, .bool t, .bool ng, .string ds, .int .i64 ex, .string tx, .slice A nl c, .slice B nf d] 27)).alloc (by simp) (.cells #[.int .i64 0, .bool false, .bool false, .string ⟨#[]⟩, .int .i64 0, .string ⟨#[]⟩, .slice none 0 0, .slice none 0 0] 27)
  have hlen := hC.1
  have hll := wtL_len xs
  have hnl : nl ≤ 4294967296 := by omega
  obtain ⟨e0, e1⟩ := boxes' w (.cells #[.int .i64 4, .bool t, .bool ng, .string ds, .int .i64 ex, .string tx, .slice A nl c, .slice B nf d] 27) (.cells #[.int .i64 0, .bool false, .bool false, .string ⟨#[]⟩, .int .i64 0, .string ⟨#[]⟩, .slice none 0 0, .slice none 0 0] 27)
  go_enter Tryz.func18, Tryz.ntmps18
  go_wp2_with fail
  obtain ⟨W3, hW3⟩ : ∃ W3, (((w.alloc (.cells #[.int .i64 4, .bool t, .bool ng, .string ds, .int .i64 ex, .string tx, .slice A nl c, .slice B nf d] 27)).alloc (.cells #[.int .i64 0, .bool false, .bool false, .string ⟨#[]⟩, .int .i64 0, .string ⟨#[]⟩, .slice none 0 0, .slice none 0 0] 27)).alloc (.cells #[.int .i64 4, .bool false, .bool false, .string ⟨#[]⟩, .int .i64 0, .string ⟨#[]⟩, .slice none 0 0, .slice none 0 0] 27)) = W3 := ⟨_, rfl⟩
  have f2 := heap_alloc_new ((w.alloc (.cells #[.int .i64 4, .bool t, .bool ng, .string ds, .int .i64 ex, .string tx, .slice A nl c, .slice B nf d] 27)).alloc (.cells #[.int .i64 0, .bool false, .bool false, .string ⟨#[]⟩, .int .i64 0, .string ⟨#[]⟩, .slice none 0 0, .slice none 0 0] 27)) (.cells #[.int .i64 4, .bool false, .bool false, .string ⟨#[]⟩, .int .i64 0, .string ⟨#[]⟩, .slice none 0 0, .slice none 0 0] 27)
  have f0 := (heap_alloc_old _ (.cells #[.int .i64 4, .bool false, .bool false, .string ⟨#[]⟩, .int .i64 0, .string ⟨#[]⟩, .slice none 0 0, .slice none 0 0] 27) (blk_lt e0)).trans e0
  have f1 := (heap_alloc_old _ (.cells #[.int .i64 4, .bool false, .bool false, .string ⟨#[]⟩, .int .i64 0, .string ⟨#[]⟩, .slice none 0 0, .slice none 0 0] 27) (blk_lt e1)).trans e1
  have hB3 := hB0.alloc (by simp; omega) (.cells #[.int .i64 4, .bool false, .bool false, .string ⟨#[]⟩, .int .i64 0, .string ⟨#[]⟩, .slice none 0 0, .slice none 0 0] 27)
  have hs2 : ((w.alloc (.cells #[.int .i64 4, .bool t, .bool ng, .string ds, .int .i64 ex, .string tx, .slice A nl c, .slice B nf d] 27)).alloc (.cells #[.int .i64 0, .bool false, .bool false, .string ⟨#[]⟩, .int .i64 0, .string ⟨#[]⟩, .slice none 0 0, .slice none 0 0] 27)).heap.size = w.heap.size + 1 + 1 := by simp
  have hs3 : W3.heap.size = w.heap.size + 3 := by rw [← hW3]; simp
  rw [hs2] at f2
  rw [hW3] at f0 f1 f2 hB3 ⊢
  clear hW3 hs2 e0 e1 hB0
  replace hlen := Aside0.mk hlen
  replace f0 := Aside0.mk f0
  replace f1 := Aside0.mk f1
  replace f2 := Aside0.mk f2
  replace hB3 := Aside0.mk hB3
  go_loopw [4] (fun i wr => ∃ (j : Nat) (v : Value), i = .int .i64 j ∧ j ≤ nl ∧ wr.heap[w.heap.size + 1 + 1]? = some (.cells #[.int .i64 4, .bool false, .bool false, .string ⟨#[]⟩, .int .i64 0, .string ⟨#[]⟩, v, .slice none 0 0] 27 (0, 0)) ∧ kV.R 27 wr (w.heap.size + 3) (fun _ => True) v ((xs.take j).map JV.norm) ∧ Below (w.heap.size + 2) W3 wr) (fun i _ => nl - (intOf i).toNat)
  case atStart => exact ⟨0, _, rfl, Nat.zero_le _, f2.out, R_nilV _ _ _, Below.refl _ _⟩
  case round =>
    obtain ⟨j, v, rfl, hj, hbx, hR, hB⟩ := hrel
    obtain ⟨VA, vc, hv⟩ := Kd.R_slice hR
    rw [show ((xs.take j).map JV.norm).length = j by rw [List.length_map, List.length_take, hlen.out]; omega] at hv
    subst hv
    have hbf := (hB.block w.heap.size (by omega)).trans f0.out
    have hcf := cellAll hbf
    have hcx := cellAll hbx
    have hfx := frozenAll hbx
    have hBw : Below w.heap.size w wr := hB3.out.trans (hB.mono (by omega))
    by_cases hlt : j < nl
    · obtain ⟨ad, x, A6, c6, A7, c7, rfl, hx, hcs, l6, g6, l7, g7⟩ := at_V hC j hlt
      have hK := kV_mkK l6 g6 l7 g7
      unfold JV.cells at hcs hK
      obtain ⟨q0, q1, q2, q3, q4, q5, q6, q7, _⟩ := hcs
      have hxm : x ∈ xs := List.mem_of_getElem? hx
      have hnx := hok x hxm
      have hwx := wt_memL hxm
      have hix := ints_memL hxm hin
      have cN := fun (W : World) (hb : Below w.heap.size w W) => hnx W _ (kV.K_below hb hK) (by omega) hix
      have hSof : ∀ W, Below (w.heap.size + 2) wr W → W.cell? ⟨w.heap.size, 6, none⟩ = some (.slice (some ad) nl c) ∧ W.cell? (ad.add (j * 8)) = some (.int .i64 x.kind) ∧ W.cell? ⟨(ad.add (j * 8)).block, (ad.add (j * 8)).off + (0 + 1), none⟩ = some (.bool x.truth) ∧ W.cell? ⟨(ad.add (j * 8)).block, (ad.add (j * 8)).off + (1 + 1), none⟩ = some (.bool x.neg) ∧ W.cell? ⟨(ad.add (j * 8)).block, (ad.add (j * 8)).off + (2 + 1), none⟩ = some (.string x.digits) ∧ W.cell? ⟨(ad.add (j * 8)).block, (ad.add (j * 8)).off + (3 + 1), none⟩ = some (.int .i64 x.exp) ∧ W.cell? ⟨(ad.add (j * 8)).block, (ad.add (j * 8)).off + (4 + 1), none⟩ = some (.string x.text) ∧ W.cell? ⟨(ad.add (j * 8)).block, (ad.add (j * 8)).off + (5 + 1), none⟩ = some (.slice A6 x.list.length c6) ∧ W.cell? ⟨(ad.add (j * 8)).block, (ad.add (j * 8)).off + (6 + 1), none⟩ = some (.slice A7 x.fields.length c7) := fun W hb => by
        have hbw := hBw.trans (hb.mono (by omega))
        refine ⟨cellAll ((hb.block w.heap.size (by omega)).trans hbf) 6, ?_, ?_, ?_, ?_, ?_, ?_, ?_, ?_⟩ <;> first | exact pw_cell_below hbw q0 | exact pw_cell_below hbw q1 | exact pw_cell_below hbw q2 | exact pw_cell_below hbw q3 | exact pw_cell_below hbw q4 | exact pw_cell_below hbw q5 | exact pw_cell_below hbw q6 | exact pw_cell_below hbw q7
      have hS0 := hSof wr (Below.refl _ _)
      have hS1 := hSof wr.drew (Below.refl _ _).drew
      have hbd : Below wr.heap.size wr wr.drew := (Below.refl _ _).drew
      have hRd := Kd.R_below hR hbd
      obtain ⟨inner, hown⟩ := Kd.R_own hRd
      have hws : w.heap.size + 3 ≤ wr.heap.size := by have := hB.size; omega
      have hj1 : (j : Int) < (nl : Int) := by omega
      have hj0 : (0 : Int) ≤ (j : Int) := by omega
      replace hR := Aside0.mk hR
      replace hRd := Aside0.mk hRd
      replace hown := Aside0.mk hown
      replace hx := Aside0.mk hx
      replace hbx := Aside0.mk hbx
      replace hbf := Aside0.mk hbf
      have hl1 : Aside0 (((xs.take j).map JV.norm ++ [x.norm]).length = j + 1) := ⟨by rw [List.length_append, List.length_map, List.length_take, hlen.out, Nat.min_eq_left hj]; rfl⟩
      clear hnx hK hxm q0 q1 q2 q3 q4 q5 q6 q7
      go_wp2_with fail
      go_region_law
        (first
          | (refine Kd.R_append_step kV (w0 := wr) (w.heap.size + 3) (by rfl) (.tmp 38) (.tmp 45) 24 27 zV 112 (by rfl) Tryz.underlying24 infoV (by rfl) (by decide) (by omega) (.slice VA j vc) ((xs.take j).map JV.norm) x.norm [.int .i64 x.norm.kind, .bool x.norm.truth, .bool x.norm.neg, .string x.norm.digits, .int .i64 x.norm.exp, .string x.norm.text, .slice Al x.norm.list.length cl, .slice Af x.norm.fields.length cf] (fun _ => True) _ (by rfl) (by rfl) hM1.out (fun _ hk => hk) (fun _ _ => trivial) hR2.out (hb4.mono hws) (by omega) ?aL ?_; (case aL => exact (by rw [List.length_map, List.length_take, hlen.out]; have : min j nl ≤ nl := Nat.min_le_right _ _; omega)); intro v1 w5 hR3 hB5 hg5 hat5; clear hat5; obtain ⟨A1, c1, hv1⟩ := Kd.R_slice hR3; rw [hl1.out] at hv1; subst hv1; have hbl5 := hbl4.grown hg5 (by omega) (fun k hk => by have := Kd.R_base hR2.out k hk; omega); have hbx5 := blk_grown hbx4.out hg5 (fun e => by have := Kd.R_base hR2.out (w.heap.size + 1 + 1) e.symm; omega); have hcx5 := cellAll hbx5; have hfx5 := frozenAll hbx5; have hS5 := hSof w5 hbl5; replace hbx5 := Aside0.mk hbx5; replace hR3 := Aside0.mk hR3)
          | (go_simp; go_at_call 18; refine (cN _ (hBw.trans (hbd.mono (by omega)))).mono ?_; rintro e w4 ⟨cs', rfl, hM, hb4'⟩; obtain ⟨vl, vf, rfl, hRl, hRf⟩ := kV_openM hM; unfold JV.cells at hM; obtain ⟨Al, cl, rfl⟩ := Kd.R_slice hRl; obtain ⟨Af, cf, rfl⟩ := Kd.R_slice hRf; unfold JV.cells; clear hRl hRf; have hM1 := kV.M_lower (base' := w.heap.size + 3) hws (Kd.M_new hM hown.out); have hR2 := Kd.R_below hRd.out hb4'; have hb4 := hbd.trans hb4'; have hbs4 := hb4.size; have hbl4 := hb4.mono (B' := w.heap.size + 2) (by omega); have hbx4 := (hb4.block _ (blk_lt hbx.out)).trans hbx.out; have hcx4 := cellAll hbx4; have hfx4 := frozenAll hbx4; have hS4 := hSof w4 hbl4; have hcxa := cellAll ((heap_alloc_old w4 (.cells #[.int .i64 x.norm.kind, .bool x.norm.truth, .bool x.norm.neg, .string x.norm.digits, .int .i64 x.norm.exp, .string x.norm.text, .slice Al x.norm.list.length cl, .slice Af x.norm.fields.length cf] 27) (blk_lt hbx4)).trans hbx4); replace hM1 := Aside0.mk hM1; replace hR2 := Aside0.mk hR2; replace hbx4 := Aside0.mk hbx4; clear hM))
      all_goals (go_wp2_with fail)
      all_goals go_roundw
      all_goals (try (case measure => first | (simp [intOf]; done) | (simp [intOf]; omega)))
      all_goals (refine ⟨j + 1, .slice A1 (j + 1) c1, by go_num, by omega, blk_set hbx5.out 6 _, ?_, set_far (hB.trans (hbl5.mono (by omega))) (by omega) _⟩)
      all_goals (rw [show (xs.take (j + 1)).map JV.norm = (xs.take j).map JV.norm ++ [x.norm] by rw [List.take_add_one, hx.out, Option.toList_some, List.map_append]; rfl])
      all_goals (exact Kd.R_mono (Kd.R_far (p := ⟨w.heap.size + 1 + 1, 6, none⟩) (ok := fun k => w.heap.size + 3 ≤ k) (Kd.R_mono (Kd.R_bound hR3.out) (fun k hk => hk.2.1)) (fun k hk => by show k ≠ w.heap.size + 1 + 1; omega) _) (fun _ _ => trivial))
    · obtain rfl : j = nl := by omega
      have hb1 := (hB.block (w.heap.size + 1) (by omega)).trans f1.out
      have hc1 := cellAll hb1
      have hf1 := frozenAll hb1
      clear hb1 hbf
      replace hR := Aside0.mk hR
      replace hbx := Aside0.mk hbx
      have hno : ¬ (j : Int) < (j : Int) := by omega
      go_wp2_with fail
      refine bodyPost_ret (v := .agg #[.int .i64 4, .bool false, .bool false, .string ⟨#[]⟩, .int .i64 0, .string ⟨#[]⟩, .slice VA j vc, .slice none 0 0]) (by simp [results, Tryz.results18, go_sem, hc1]) rfl ⟨[.int .i64 4, .bool false, .bool false, .string ⟨#[]⟩, .int .i64 0, .string ⟨#[]⟩, .slice VA j vc, .slice none 0 0], rfl, ?_, ?_⟩
      · refine kV_mkM (x := .mk 4 false false ⟨#[]⟩ 0 ⟨#[]⟩ (JV.normL xs) []) (R_setsV (W := W3) (by rw [normL_map, hs3]; have := hR.out; rw [← hlen.out, List.take_length] at this; rw [← hlen.out]; exact this) (by omega) (by omega)) (R_nilF _ _ _)
      · iterate 8 refine below_set ?_ (by omega)
        exact hBw
end Go.Proofs.YtkdeleafgailhaaGreatDoor
end
