/- There and back, plainly: **a value in its one form, told, is read as it**; so two that are told alike are one. voyageref02.Depth tells how deep a value's one form is. How deep what is read may be: plain. The one form is no deeper; reading is one whatever the depth allowed: plain. A reading stays the same where more brackets are allowed: plain. What is told of a value in its one form: read as it, or at fault where it is too deep: plain. Where a fault is: within the text: plain. -/
import Derived.Test.YtmfijfcikecglaaGreatDoorG24
import Derived.Test.YtmfijfcikecglaaGreatDoorG10
import Derived.Test.YtmfijfcikecglaaGreatDoorG20
section
set_option linter.unusedVariables false
set_option linter.unusedSimpArgs false
namespace Go.Proofs.YtmfijfcikecglaaGreatDoor
open Go Go.RowKit

/-- A value is read back, wherever it is told, if nothing goes on behind it that goes on a number. -/
def Back (x : JV) : Prop := ∀ (D : Nat) (s : ByteArray) (i : Nat), x.deep ≤ D → Has s i x.put → isNum (byteAt s (i + x.put.length)) = false → valF s D i = .ok x (i + x.put.length)

theorem quoted_head {s t : ByteArray} {p : Nat} (h : Has s p (quoted t)) : byteAt s p = 34 := by
  unfold quoted at h
  exact h.head.1
theorem valF_with (s : ByteArray) (D i : Nat) : ∃ lst obj, valF s D i = valWith s lst obj i := by
  cases D with
  | zero => exact ⟨_, _, by rw [valF]⟩
  | succ D => exact ⟨_, _, by rw [valF]⟩

/-- A list's elements. -/
theorem sevL_back {s : ByteArray} {D : Nat} : ∀ (xs : List JV) (x : JV) (acc : List JV) (n p : Nat), (∀ y ∈ x :: xs, y.isN ∧ y.deep ≤ D ∧ Back y) → Has s p (x.put ++ (JV.putL 44 xs ++ [93])) → s.size < p + n →
    sevF s 93 (itemL (valF s D)) n p acc = .ok (acc ++ x :: xs) (p + (x.put ++ (JV.putL 44 xs ++ [93])).length)
  | xs, x, acc, n, p, hy, h, hn => by
    have hle := h.1
    obtain ⟨n, rfl⟩ : ∃ m, n = m + 1 := ⟨n - 1, by omega⟩
    obtain ⟨h1, h2, h3⟩ := hy x (.head _)
    have hR := h.right
    have hnext : ∃ c q, JV.putL 44 xs ++ [93] = c :: q ∧ ((xs = [] ∧ c = 93) ∨ (xs ≠ [] ∧ c = 44)) := by
      cases xs with
      | nil => rw [JV.putL]; exact ⟨93, [], rfl, .inl ⟨rfl, rfl⟩⟩
      | cons y ys => rw [JV.putL]; exact ⟨44, _, rfl, .inr ⟨by simp, rfl⟩⟩
    obtain ⟨c, q, ec, hc⟩ := hnext
    rw [ec] at hR
    have hb := hR.head.1
    have hnum : isNum (byteAt s (p + x.put.length)) = false ∧ isGap (byteAt s (p + x.put.length)) = false := by
      rw [hb]
      rcases hc with ⟨_, rfl⟩ | ⟨_, rfl⟩ <;> exact ⟨rfl, rfl⟩
    have hv := h3 D s p h2 h.left hnum.1
    have hi : itemL (valF s D) p acc = .ok (acc ++ [x]) (p + x.put.length) := by
      unfold itemL
      rw [hv]
    rw [sevF, hi]
    simp only
    rw [gap_stay hnum.2]
    rcases hc with ⟨rfl, rfl⟩ | ⟨hne, rfl⟩
    · have hb2 : byteAt s (p + x.put.length) = 93 := hb
      rw [if_neg (by omega), if_pos hb2]
      rw [JV.putL]
      simp only [List.nil_append, List.length_append, List.length_cons, List.length_nil]
      rfl
    · have hb2 : byteAt s (p + x.put.length) = 44 := hb
      rw [if_pos hb2]
      cases xs with
      | nil => exact absurd rfl hne
      | cons y ys =>
        rw [JV.putL] at ec
        have eq : y.put ++ (JV.putL 44 ys ++ [93]) = q := by
          simp only [List.cons_append] at ec
          injection ec with _ ec
          rw [← ec, List.append_assoc]
        have hT := hR.tail
        rw [← eq] at hT
        obtain ⟨c2, q2, e2, ho⟩ := put_first y (hy y (.tail _ (.head _))).1
        have hf : isGap (byteAt s (p + x.put.length + 1)) = false := by
          have := hT
          rw [e2] at this
          rw [this.head.1]
          exact opens_gap ho
        rw [gap_stay hf, sevL_back ys y (acc ++ [x]) n _ (fun z hz => hy z (.tail _ hz)) hT (by omega)]
        rw [List.append_assoc, JV.putL]
        congr 1
        simp only [List.length_append, List.length_cons, List.length_nil]
        omega
theorem hasName_no {acc : List JF} {nm : ByteArray} (h : ∀ f ∈ acc, lessB f.name nm = true) : hasName acc nm = false := by
  unfold hasName
  rw [List.any_eq_false]
  intro f hf hs
  have e : f.name = nm := by simpa using hs
  have := h f hf
  rw [e, lessB_irrefl] at this
  cases this
/-- An object's fields. -/
theorem sevF_back {s : ByteArray} {D : Nat} : ∀ (xs : List JF) (nm : ByteArray) (v : JV) (acc : List JF) (n p : Nat), (∀ f ∈ JF.mk nm v :: xs, Lib.validD f.name.data.toList = true ∧ f.value.isN ∧ f.value.deep ≤ D ∧ Back f.value) → Rising (acc ++ JF.mk nm v :: xs) →
    Has s p (quoted nm ++ (58 :: (v.put ++ (JV.putF 44 xs ++ [125])))) → s.size < p + n →
    sevF s 125 (fieldAt s (valF s D)) n p acc = .ok (acc ++ JF.mk nm v :: xs) (p + (quoted nm ++ (58 :: (v.put ++ (JV.putF 44 xs ++ [125])))).length)
  | xs, nm, v, acc, n, p, hy, hr, h, hn => by
    have hle := h.1
    obtain ⟨n, rfl⟩ : ∃ m, n = m + 1 := ⟨n - 1, by omega⟩
    obtain ⟨h0, h1, h2, h3⟩ := hy (.mk nm v) (.head _)
    simp only [JF.name, JF.value] at h0 h1 h2 h3
    have hR := h.right
    have hQ := h.left
    have hq0 : byteAt s p = 34 := by
      have := hQ
      unfold quoted at this
      exact this.head.1
    have htx := text_back h0 hQ
    have hcol : byteAt s (p + (quoted nm).length) = 58 := hR.head.1
    have hV := hR.tail
    obtain ⟨c2, q2, e2, ho⟩ := put_first v h1
    have hf : isGap (byteAt s (p + (quoted nm).length + 1)) = false := by
      have := hV.left
      rw [e2] at this
      rw [this.head.1]
      exact opens_gap ho
    have hnext : ∃ c q, JV.putF 44 xs ++ [125] = c :: q ∧ ((xs = [] ∧ c = 125) ∨ (xs ≠ [] ∧ c = 44)) := by
      cases xs with
      | nil => rw [JV.putF]; exact ⟨125, [], rfl, .inl ⟨rfl, rfl⟩⟩
      | cons y ys => obtain ⟨n2, v2⟩ := y; rw [JV.putF]; exact ⟨44, _, rfl, .inr ⟨by simp, rfl⟩⟩
    obtain ⟨c, q, ec, hc⟩ := hnext
    have hE := hV.right
    rw [ec] at hE
    have hb := hE.head.1
    have hnum : isNum (byteAt s (p + (quoted nm).length + 1 + v.put.length)) = false ∧ isGap (byteAt s (p + (quoted nm).length + 1 + v.put.length)) = false := by
      rw [hb]
      rcases hc with ⟨_, rfl⟩ | ⟨_, rfl⟩ <;> exact ⟨rfl, rfl⟩
    have hv := h3 D s _ h2 hV.left hnum.1
    have hlt : ∀ f ∈ acc, lessB f.name nm = true := fun f hf => (List.pairwise_append.1 hr).2.2 f hf (.mk nm v) (.head _)
    have hi : fieldAt s (valF s D) p acc = .ok (acc ++ [JF.mk nm v]) (p + (quoted nm).length + 1 + v.put.length) := by
      unfold fieldAt
      rw [if_pos hq0, htx]
      simp only
      rw [show (⟨nm.data.toList.toArray⟩ : ByteArray) = nm by simp, hasName_no hlt, gap_stay (by rw [hcol]; rfl), if_neg (by simp), if_pos hcol, gap_stay hf, hv]
      rfl
    rw [sevF, hi]
    simp only
    rw [gap_stay hnum.2]
    rcases hc with ⟨rfl, rfl⟩ | ⟨hne, rfl⟩
    · have hb2 : byteAt s (p + (quoted nm).length + 1 + v.put.length) = 125 := hb
      rw [if_neg (by omega), if_pos hb2]
      rw [JV.putF]
      congr 1
      simp only [List.nil_append, List.length_append, List.length_cons, List.length_nil]
      omega
    · have hb2 : byteAt s (p + (quoted nm).length + 1 + v.put.length) = 44 := hb
      rw [if_pos hb2]
      cases xs with
      | nil => exact absurd rfl hne
      | cons y ys =>
        obtain ⟨n2, v2⟩ := y
        rw [JV.putF] at ec
        have eq : quoted n2 ++ (58 :: (v2.put ++ (JV.putF 44 ys ++ [125]))) = q := by
          simp only [List.cons_append] at ec
          injection ec with _ ec
          rw [← ec]
          simp
        have hT := hE.tail
        rw [← eq] at hT
        have hg : isGap (byteAt s (p + (quoted nm).length + 1 + v.put.length + 1)) = false := by
          rw [quoted_head hT.left]
          rfl
        rw [gap_stay hg, sevF_back ys n2 v2 (acc ++ [JF.mk nm v]) n _ (fun z hz => hy z (.tail _ hz)) (by rw [List.append_assoc]; exact hr) hT (by omega)]
        rw [List.append_assoc, JV.putF]
        congr 1
        simp only [List.length_append, List.length_cons, List.length_nil]
        omega
theorem deepL_mem : ∀ {l : List JV} {y : JV}, y ∈ l → y.deep ≤ JV.deepL l
  | x :: l, y, h => by
    rw [JV.deepL]
    rcases List.mem_cons.1 h with rfl | h
    · omega
    · have := deepL_mem h; omega
theorem deepF_mem : ∀ {l : List JF} {f : JF}, f ∈ l → f.value.deep ≤ JV.deepF l
  | .mk nm v :: l, f, h => by
    rw [JV.deepF]
    rcases List.mem_cons.1 h with rfl | h
    · simp only [JF.value]; omega
    · have := deepF_mem h; omega
theorem back_step (x : JV) (hx : x.isN) (hl : ∀ y ∈ x.list, Back y) (hf : ∀ f ∈ x.fields, Back f.value) : Back x := by
  intro D s i hD h he
  obtain ⟨k, t, n, d, e, tx, l, f⟩ := x
  simp only [JV.list, JV.fields] at hl hf
  rw [JV.isN] at hx
  rcases hx with ⟨rfl, rfl, rfl, rfl, rfl, rfl, rfl, rfl⟩ | ⟨rfl, rfl, rfl, rfl, rfl, rfl, rfl⟩ | ⟨rfl, rfl, hN, rfl, rfl, rfl⟩ | ⟨rfl, rfl, rfl, rfl, rfl, hv, rfl, rfl⟩ | ⟨rfl, rfl, rfl, rfl, rfl, rfl, hL, rfl⟩ | ⟨rfl, rfl, rfl, rfl, rfl, rfl, rfl, hF, hr⟩
  · obtain ⟨lst, obj, ev⟩ := valF_with s D i
    rw [ev]
    have hp : (JV.mk 0 false false ⟨#[]⟩ 0 ⟨#[]⟩ [] []).put = [110, 117, 108, 108] := by rw [JV.put]; rfl
    rw [hp] at h ⊢
    have hb : byteAt s i = 110 := h.head.1
    unfold valWith litAt
    rw [if_neg (by omega), if_neg (by omega), if_neg (by omega), if_neg (by omega), pre_yes h, if_pos rfl]
    rfl
  · obtain ⟨lst, obj, ev⟩ := valF_with s D i
    rw [ev]
    cases t with
    | true =>
      have hp : (JV.mk 1 true false ⟨#[]⟩ 0 ⟨#[]⟩ [] []).put = [116, 114, 117, 101] := by rw [JV.put]; rfl
      rw [hp] at h ⊢
      have hb : byteAt s i = 116 := h.head.1
      unfold valWith litAt
      rw [if_neg (by omega), if_neg (by omega), if_neg (by omega), if_neg (by omega), pre_no (by rw [hb]; decide), if_neg (by simp), pre_yes h, if_pos rfl]
      rfl
    | false =>
      have hp : (JV.mk 1 false false ⟨#[]⟩ 0 ⟨#[]⟩ [] []).put = [102, 97, 108, 115, 101] := by rw [JV.put]; rfl
      rw [hp] at h ⊢
      have hb : byteAt s i = 102 := h.head.1
      unfold valWith litAt
      rw [if_neg (by omega), if_neg (by omega), if_neg (by omega), if_neg (by omega), pre_no (by rw [hb]; decide), if_neg (by simp), pre_no (by rw [hb]; decide), if_neg (by simp), pre_yes h, if_pos rfl]
      rfl
  · obtain ⟨lst, obj, ev⟩ := valF_with s D i
    rw [ev]
    have hp : (JV.mk 2 false n d e ⟨#[]⟩ [] []).put = decText n d e := by rw [JV.put]; rfl
    rw [hp] at h he ⊢
    obtain ⟨c, q, ec, hc⟩ := text_first hN
    have hb : byteAt s i = c.toNat := by have := h; rw [ec] at this; exact this.head.1
    unfold valWith
    rw [if_neg (by omega), if_neg (by omega), if_neg (by omega), if_pos (by omega)]
    exact number_back hN h he
  · obtain ⟨lst, obj, ev⟩ := valF_with s D i
    rw [ev]
    have hp : (JV.mk 3 false false ⟨#[]⟩ 0 tx [] []).put = quoted tx := by rw [JV.put]; rfl
    rw [hp] at h he ⊢
    have hb : byteAt s i = 34 := by have := h; unfold quoted at this; exact this.head.1
    unfold valWith
    rw [if_neg (by omega), if_neg (by omega), if_pos hb]
    unfold textVal
    rw [text_back hv h]
  · have hd2 : (JV.mk 4 false false ⟨#[]⟩ 0 ⟨#[]⟩ l []).deep = 1 + JV.deepL l := by rw [JV.deep]; rfl
    rw [hd2] at hD
    obtain ⟨D, rfl⟩ : ∃ m, D = m + 1 := ⟨D - 1, by omega⟩
    rw [valF]
    have hp : (JV.mk 4 false false ⟨#[]⟩ 0 ⟨#[]⟩ l []).put = JV.putL 91 l ++ (if l.length = 0 then [91, 93] else [93]) := by rw [JV.put]; rfl
    rw [hp] at h he ⊢
    cases l with
    | nil =>
      rw [JV.putL] at h he ⊢
      have hb : byteAt s i = 91 := h.head.1
      have hb2 : byteAt s (i + 1) = 93 := h.tail.head.1
      unfold valWith
      rw [if_pos hb]
      unfold sevAt
      rw [gap_stay (by rw [hb2]; rfl), if_pos hb2]
      rfl
    | cons x xs =>
      rw [JV.putL, if_neg (by simp)] at h he ⊢
      rw [List.cons_append, List.append_assoc] at h he ⊢
      have hb : byteAt s i = 91 := h.head.1
      obtain ⟨c2, q2, e2, ho⟩ := put_first x (isNL_iff.1 hL x (.head _))
      have hb2 : byteAt s (i + 1) = c2.toNat := by have := h.tail.left; rw [e2] at this; exact this.head.1
      have hle := h.1
      unfold valWith
      rw [if_pos hb]
      unfold sevAt
      rw [gap_stay (by rw [hb2]; exact opens_gap ho), if_neg (by rw [hb2]; unfold opens at ho; omega)]
      rw [sevL_back xs x [] (s.size + 1) (i + 1) (fun y hy => ⟨isNL_iff.1 hL y hy, by have := deepL_mem hy; omega, hl y hy⟩) h.tail (by omega)]
      show PR.ok _ _ = PR.ok _ _
      congr 1
      simp only [List.length_cons]
      omega
  · have hd2 : (JV.mk 5 false false ⟨#[]⟩ 0 ⟨#[]⟩ [] f).deep = 1 + JV.deepF f := by rw [JV.deep]; rfl
    rw [hd2] at hD
    obtain ⟨D, rfl⟩ : ∃ m, D = m + 1 := ⟨D - 1, by omega⟩
    rw [valF]
    have hp : (JV.mk 5 false false ⟨#[]⟩ 0 ⟨#[]⟩ [] f).put = JV.putF 123 f ++ (if f.length = 0 then [123, 125] else [125]) := by rw [JV.put]; rfl
    rw [hp] at h he ⊢
    cases f with
    | nil =>
      rw [JV.putF] at h he ⊢
      have hb : byteAt s i = 123 := h.head.1
      have hb2 : byteAt s (i + 1) = 125 := h.tail.head.1
      unfold valWith
      rw [if_neg (by omega), if_pos hb]
      unfold sevAt
      rw [gap_stay (by rw [hb2]; rfl), if_pos hb2]
      rfl
    | cons x xs =>
      obtain ⟨nm, v⟩ := x
      rw [JV.putF, if_neg (by simp)] at h he ⊢
      rw [List.cons_append, List.append_assoc, List.cons_append, List.append_assoc] at h he ⊢
      have hb : byteAt s i = 123 := h.head.1
      have hb2 : byteAt s (i + 1) = 34 := by have := h.tail.left; unfold quoted at this; exact this.head.1
      have hle := h.1
      unfold valWith
      rw [if_neg (by omega), if_pos hb]
      unfold sevAt
      rw [gap_stay (by rw [hb2]; rfl), if_neg (by omega)]
      rw [sevF_back xs nm v [] (s.size + 1) (i + 1) (fun g hg => ⟨(isNF_iff.1 hF g hg).1, (isNF_iff.1 hF g hg).2, by have := deepF_mem hg; omega, hf g hg⟩) hr h.tail (by omega)]
      show PR.ok _ _ = PR.ok _ _
      congr 1
      simp only [List.length_cons]
      omega
theorem back_all : ∀ (n : Nat) (x : JV), x.wt ≤ n → x.isN → Back x
  | 0, .mk k t n d e s l f, h, _ => by rw [JV.wt] at h; omega
  | m + 1, .mk k t n d e s l f, h, hx => by
    rw [JV.wt] at h
    have hm : (∀ y ∈ l, y.isN) ∧ (∀ g ∈ f, g.value.isN) := by
      rw [JV.isN] at hx
      rcases hx with ⟨_, _, _, _, _, _, rfl, rfl⟩ | ⟨_, _, _, _, _, rfl, rfl⟩ | ⟨_, _, _, _, rfl, rfl⟩ | ⟨_, _, _, _, _, _, rfl, rfl⟩ | ⟨_, _, _, _, _, _, hL, rfl⟩ | ⟨_, _, _, _, _, _, rfl, hF, _⟩
      · exact ⟨(fun y h => nomatch h), (fun y h => nomatch h)⟩
      · exact ⟨(fun y h => nomatch h), (fun y h => nomatch h)⟩
      · exact ⟨(fun y h => nomatch h), (fun y h => nomatch h)⟩
      · exact ⟨(fun y h => nomatch h), (fun y h => nomatch h)⟩
      · exact ⟨isNL_iff.1 hL, (fun y h => nomatch h)⟩
      · exact ⟨(fun y h => nomatch h), fun g hg => (isNF_iff.1 hF g hg).2⟩
    exact back_step _ hx (fun y hy => back_all m y (by have := wt_memL hy; simp only [JV.list] at this; omega) (hm.1 y hy)) (fun g hg => back_all m _ (by have := wt_memF hg; simp only [JV.fields] at this; omega) (hm.2 g hg))
/-- **There and back.** -/
theorem back_any (x : JV) (hx : x.isN) : Back x := back_all _ x (Nat.le_refl _) hx
/-- What is told and nothing else is read as it. -/
theorem back_whole (x : JV) (hx : x.isN) {D : Nat} (hD : x.deep ≤ D) : valF ⟨x.put.toArray⟩ D 0 = .ok x x.put.length := by
  have hall : Has ⟨x.put.toArray⟩ 0 x.put := by have := Has.all ⟨x.put.toArray⟩; simpa using this
  have := back_any x hx D ⟨x.put.toArray⟩ 0 hD hall (by rw [byteAt_end (by rw [size_mk]; omega)]; rfl)
  rw [Nat.zero_add] at this
  exact this
end Go.Proofs.YtmfijfcikecglaaGreatDoor
end
section
set_option linter.unusedVariables false
set_option linter.unusedSimpArgs false
namespace Go.Proofs.YtmfijfcikecglaaGreatDoor
open Go Go.RowKit Go.Proofs.YtmfijfcikecglaaGreatDoorW.PrintWords

def RDepthOK (x : JV) : Prop := ∀ (w : World) (cs : List Value), kV.K w x cs → x.wt ≤ 4294967296 → x.norm.wt ≤ 4294967296 → x.ints →
  Calls Tryz.prog 24 #[.agg cs.toArray] w fun e w' => e = .returned (.int .i64 x.norm.deep) ∧ Below w.heap.size w w'

set_option maxRecDepth 100000 in
set_option maxHeartbeats 4000000 in
theorem rdepth_list (x : JV) (w : World) (cs : List Value) (hK : kV.K w x cs) (hwt : x.wt ≤ 4294967296) (hwn : x.norm.wt ≤ 4294967296) (hin : x.ints) (l : List JV) (hy : x.norm = .mk 4 false false ⟨#[]⟩ 0 ⟨#[]⟩ l []) (hok : ∀ z ∈ l, RDepthOK z ∧ z.norm = z ∧ z.ints) :
    Calls Tryz.prog 24 #[.agg cs.toArray] w fun e w' => e = .returned (.int .i64 ((1 + JV.deepL l : Nat) : Int)) ∧ Below w.heap.size w w' := by
  have cX := fun (W : World) (hb : Below w.heap.size w W) => rnorm_any x W cs (kV.K_below hb hK) (by omega) hin
  rw [hy] at hwn
  simp only [hy] at cX
  obtain ⟨A, c, B, d, rfl, _⟩ := kV_open hK
  unfold JV.cells at cX ⊢
  have hll := wtL_len l
  have hlw : JV.wtL l ≤ 4294967296 := by rw [JV.wt] at hwn; omega
  have hln : l.length ≤ 4294967296 := by omega
  have hB0 := (Below.refl _ w).alloc (Nat.le_refl _) (.cells #[.int .i64 x.kind, .bool x.truth, .bool x.neg, .string x.digits, .int .i64 x.exp, .string x.text, .slice A x.list.length c, .slice B x.fields.length d] 27)
  have hdw := deepL_wt l
  replace hB0 := Aside0.mk hB0
  clear hK hwt hwn hy
  go_enter Tryz.func24, Tryz.ntmps24
  go_wp2_with (go_at_call 23; refine (cX _ hB0.out).mono ?_; rintro e w1 ⟨cs1, rfl, hM1, hb1⟩; obtain ⟨vl, vf, rfl, hRl, hRf⟩ := kV_openM hM1; unfold JV.cells at hM1; obtain ⟨Al, cl, rfl⟩ := Kd.R_slice hRl; obtain ⟨Af, cf, rfl⟩ := Kd.R_slice hRf; have hK1 := kV.K_of_M hM1; unfold JV.cells; clear hRl hRf; simp only [JV.kind, JV.truth, JV.neg, JV.digits, JV.exp, JV.text, JV.list, JV.fields] at hM1 hK1 ⊢; replace hK1 := Aside0.mk hK1; obtain ⟨W2, hW2⟩ : ∃ W2, w1.alloc (.cells #[.int .i64 4, .bool false, .bool false, .string ⟨#[]⟩, .int .i64 0, .string ⟨#[]⟩, .slice Al l.length cl, .slice Af 0 cf] 27) = W2 := ⟨_, rfl⟩; have hB2 := Aside0.mk (hW2 ▸ (hB0.out.trans (hb1.mono hB0.out.size)).alloc ((hB0.out.trans (hb1.mono hB0.out.size)).size) (.cells #[.int .i64 4, .bool false, .bool false, .string ⟨#[]⟩, .int .i64 0, .string ⟨#[]⟩, .slice Al l.length cl, .slice Af 0 cf] 27)); have hbx := Aside0.mk (hW2 ▸ heap_alloc_new w1 (.cells #[.int .i64 4, .bool false, .bool false, .string ⟨#[]⟩, .int .i64 0, .string ⟨#[]⟩, .slice Al l.length cl, .slice Af 0 cf] 27)); have hc2 := cellAll hbx.out)
  have hC1 : Aside0 (kV.C W2 Al l.length l) := ⟨by
    obtain ⟨A', c', B', d', he, _, hC, _⟩ := kV_open hK1.out
    unfold JV.cells at he
    simp only [JV.list, JV.kind, JV.truth, JV.neg, JV.digits, JV.exp, JV.text, JV.fields, List.cons.injEq, Value.slice.injEq] at he hC
    rw [he.2.2.2.2.2.2.1.1]
    exact Kd.C_below hC (hW2 ▸ (Below.refl _ w1).alloc (Nat.le_refl _) _)⟩
  clear hW2 hK1
  go_loopw [4, 5] (fun q i wr => ∃ j : Nat, i = .int .i64 j ∧ q = .int .i64 ((JV.deepL (l.take j) : Nat) : Int) ∧ j ≤ l.length ∧ Below W2.heap.size W2 wr) (fun _ i _ => l.length - (intOf i).toNat)
  case atStart => exact ⟨0, rfl, by simp [JV.deepL], Nat.zero_le _, Below.refl _ _⟩
  case round =>
    obtain ⟨j, rfl, rfl, hj, hB⟩ := hrel
    clear hc2
    have hcr := cellAll ((hB.block _ (blk_lt hbx.out)).trans hbx.out)
    have hda := deepL_wt (l.take j)
    have hdb : JV.wtL (l.take j) ≤ JV.wtL l := by
      have : JV.wtL l = JV.wtL (l.take j) + JV.wtL (l.drop j) := by rw [← wtL_app, List.take_append_drop]
      omega
    by_cases hlt : j < l.length
    · obtain ⟨ad, x, A6, c6, A7, c7, rfl, hx, hcs, l6, g6, l7, g7⟩ := at_V (Kd.C_below hC1.out hB) j hlt
      have hK := kV_mkK l6 g6 l7 g7
      unfold JV.cells at hcs hK
      obtain ⟨q0, q1, q2, q3, q4, q5, q6, q7, _⟩ := hcs
      have hxm : x ∈ l := List.mem_of_getElem? hx
      obtain ⟨ho, hn, hi⟩ := hok x hxm
      have hwx := wt_memL hxm
      have cD := ho wr _ hK (by omega) (by rw [hn]; omega) hi
      rw [hn] at cD
      have hdx := deep_wt x
      have hsn : JV.deepL (l.take (j + 1)) = max (JV.deepL (l.take j)) x.deep := by
        rw [List.take_add_one, hx, Option.toList_some, deepL_snoc]
      replace hsn := Aside0.mk hsn
      replace cD := Aside0.mk cD
      clear hK hxm ho hn hx
      generalize JV.deepL (l.take j) = a at *
      generalize x.deep = b at *
      by_cases hab : a < b
      · have hab2 : (a : Int) < (b : Int) := by omega
        go_wp2_with (go_at_call 24; refine cD.out.mono ?_; rintro e w3 ⟨rfl, hb3⟩)
        go_roundw
        case rel => exact ⟨j + 1, by go_num, by rw [hsn.out, Nat.max_eq_right (by omega)], by omega, hB.trans (hb3.mono hB.size)⟩
        case measure => simp [intOf]; omega
      · have hab2 : ¬ (a : Int) < (b : Int) := by omega
        go_wp2_with (go_at_call 24; refine cD.out.mono ?_; rintro e w3 ⟨rfl, hb3⟩)
        go_roundw
        case rel => exact ⟨j + 1, by go_num, by rw [hsn.out, Nat.max_eq_left (by omega)], by omega, hB.trans (hb3.mono hB.size)⟩
        case measure => simp [intOf]; omega
    · obtain rfl : j = l.length := by omega
      have htk : l.take l.length = l := List.take_length
      rw [htk]
      go_wp2_with fail
      go_loopw [4, 7] (fun q i wr2 => q = .int .i64 ((JV.deepL l : Nat) : Int) ∧ i = .int .i64 0 ∧ wr2 = wr) (fun _ _ _ => 0)
      case atStart => exact ⟨rfl, rfl, rfl⟩
      case round =>
        obtain ⟨rfl, rfl, rfl⟩ := hrel
        have hcr3 := cellAll ((hB.block _ (blk_lt hbx.out)).trans hbx.out)
        go_wp2_with fail
        go_ret
        exact ⟨by congr 2, hB2.out.trans (hB.mono hB2.out.size)⟩

set_option maxRecDepth 100000 in
set_option maxHeartbeats 4000000 in
theorem rdepth_obj (x : JV) (w : World) (cs : List Value) (hK : kV.K w x cs) (hwt : x.wt ≤ 4294967296) (hwn : x.norm.wt ≤ 4294967296) (hin : x.ints) (l : List JF) (hy : x.norm = .mk 5 false false ⟨#[]⟩ 0 ⟨#[]⟩ [] l) (hok : ∀ z ∈ l, RDepthOK z.value ∧ z.value.norm = z.value ∧ z.value.ints) :
    Calls Tryz.prog 24 #[.agg cs.toArray] w fun e w' => e = .returned (.int .i64 ((1 + JV.deepF l : Nat) : Int)) ∧ Below w.heap.size w w' := by
  have cX := fun (W : World) (hb : Below w.heap.size w W) => rnorm_any x W cs (kV.K_below hb hK) (by omega) hin
  rw [hy] at hwn
  simp only [hy] at cX
  obtain ⟨A, c, B, d, rfl, _⟩ := kV_open hK
  unfold JV.cells at cX ⊢
  have hll := wtF_len l
  have hlw : JV.wtF l ≤ 4294967296 := by rw [JV.wt] at hwn; omega
  have hln : l.length ≤ 4294967296 := by omega
  have hB0 := (Below.refl _ w).alloc (Nat.le_refl _) (.cells #[.int .i64 x.kind, .bool x.truth, .bool x.neg, .string x.digits, .int .i64 x.exp, .string x.text, .slice A x.list.length c, .slice B x.fields.length d] 27)
  have hdw := deepF_wt l
  replace hB0 := Aside0.mk hB0
  clear hK hwt hwn hy
  go_enter Tryz.func24, Tryz.ntmps24
  go_wp2_with (go_at_call 23; refine (cX _ hB0.out).mono ?_; rintro e w1 ⟨cs1, rfl, hM1, hb1⟩; obtain ⟨vl, vf, rfl, hRl, hRf⟩ := kV_openM hM1; unfold JV.cells at hM1; obtain ⟨Al, cl, rfl⟩ := Kd.R_slice hRl; obtain ⟨Af, cf, rfl⟩ := Kd.R_slice hRf; have hK1 := kV.K_of_M hM1; unfold JV.cells; clear hRl hRf; simp only [JV.kind, JV.truth, JV.neg, JV.digits, JV.exp, JV.text, JV.list, JV.fields] at hM1 hK1 ⊢; replace hK1 := Aside0.mk hK1; obtain ⟨W2, hW2⟩ : ∃ W2, w1.alloc (.cells #[.int .i64 5, .bool false, .bool false, .string ⟨#[]⟩, .int .i64 0, .string ⟨#[]⟩, .slice Al 0 cl, .slice Af l.length cf] 27) = W2 := ⟨_, rfl⟩; have hB2 := Aside0.mk (hW2 ▸ (hB0.out.trans (hb1.mono hB0.out.size)).alloc ((hB0.out.trans (hb1.mono hB0.out.size)).size) (.cells #[.int .i64 5, .bool false, .bool false, .string ⟨#[]⟩, .int .i64 0, .string ⟨#[]⟩, .slice Al 0 cl, .slice Af l.length cf] 27)); have hbx := Aside0.mk (hW2 ▸ heap_alloc_new w1 (.cells #[.int .i64 5, .bool false, .bool false, .string ⟨#[]⟩, .int .i64 0, .string ⟨#[]⟩, .slice Al 0 cl, .slice Af l.length cf] 27)); have hc2 := cellAll hbx.out)
  have hC1 : Aside0 (kF.C W2 Af l.length l) := ⟨by
    obtain ⟨A', c', B', d', he, _, _, _, hC⟩ := kV_open hK1.out
    unfold JV.cells at he
    simp only [JV.list, JV.kind, JV.truth, JV.neg, JV.digits, JV.exp, JV.text, JV.fields, List.cons.injEq, Value.slice.injEq] at he hC
    rw [he.2.2.2.2.2.2.2.1.1]
    exact Kd.C_below hC (hW2 ▸ (Below.refl _ w1).alloc (Nat.le_refl _) _)⟩
  clear hW2 hK1
  go_loopw [4, 5] (fun q i wr => q = .int .i64 0 ∧ i = .int .i64 0 ∧ wr = W2) (fun _ _ _ => 0)
  case atStart => exact ⟨rfl, rfl, rfl⟩
  case round =>
    obtain ⟨rfl, rfl, rfl⟩ := hrel
    have hc3 := cellAll hbx.out
    go_wp2_with fail
    go_loopw [4, 7] (fun q i wr2 => ∃ j : Nat, i = .int .i64 j ∧ q = .int .i64 ((JV.deepF (l.take j) : Nat) : Int) ∧ j ≤ l.length ∧ Below wr.heap.size wr wr2) (fun _ i _ => l.length - (intOf i).toNat)
    case atStart => exact ⟨0, rfl, by simp [JV.deepF], Nat.zero_le _, Below.refl _ _⟩
    case round =>
      obtain ⟨j, rfl, rfl, hj, hB⟩ := hrel
      have hcr := cellAll ((hB.block _ (blk_lt hbx.out)).trans hbx.out)
      have hda := deepF_wt (l.take j)
      have hdb : JV.wtF (l.take j) ≤ JV.wtF l := by
        have : JV.wtF l = JV.wtF (l.take j) + JV.wtF (l.drop j) := by rw [← wtF_app, List.take_append_drop]
        omega
      by_cases hlt : j < l.length
      · obtain ⟨ad, x, A6, c6, A7, c7, rfl, hx, hcs, l6, g6, l7, g7⟩ := at_F (Kd.C_below hC1.out hB) j hlt
        have hK := kV_mkK l6 g6 l7 g7
        unfold JV.cells at hcs hK
        obtain ⟨q0, q1, q2, q3, q4, q5, q6, q7, q8, _⟩ := hcs
        have hxm : x ∈ l := List.mem_of_getElem? hx
        obtain ⟨ho, hn, hi⟩ := hok x hxm
        have hwx := wt_memF hxm
        have cD := ho _ _ hK (by omega) (by rw [hn]; omega) hi
        rw [hn] at cD
        have hdx := deep_wt x.value
        have hsn : JV.deepF (l.take (j + 1)) = max (JV.deepF (l.take j)) x.value.deep := by
          rw [List.take_add_one, hx, Option.toList_some, deepF_snoc]
        replace hsn := Aside0.mk hsn
        replace cD := Aside0.mk cD
        clear hK hxm ho hn hx
        generalize JV.deepF (l.take j) = a at *
        generalize x.value.deep = b at *
        by_cases hab : a < b
        · have hab2 : (a : Int) < (b : Int) := by omega
          go_wp2_with (go_at_call 24; refine cD.out.mono ?_; rintro e w3 ⟨rfl, hb3⟩)
          go_roundw
          case rel => exact ⟨j + 1, by go_num, by rw [hsn.out, Nat.max_eq_right (by omega)], by omega, hB.trans (hb3.mono hB.size)⟩
          case measure => simp [intOf]; omega
        · have hab2 : ¬ (a : Int) < (b : Int) := by omega
          go_wp2_with (go_at_call 24; refine cD.out.mono ?_; rintro e w3 ⟨rfl, hb3⟩)
          go_roundw
          case rel => exact ⟨j + 1, by go_num, by rw [hsn.out, Nat.max_eq_left (by omega)], by omega, hB.trans (hb3.mono hB.size)⟩
          case measure => simp [intOf]; omega
      · obtain rfl : j = l.length := by omega
        have htk : l.take l.length = l := List.take_length
        rw [htk]
        go_wp2_with fail
        go_ret
        exact ⟨by congr 2, hB2.out.trans (hB.mono hB2.out.size)⟩

set_option maxRecDepth 100000 in
set_option maxHeartbeats 4000000 in
theorem rdepth_rest (x : JV) (w : World) (cs : List Value) (hK : kV.K w x cs) (hwt : x.wt ≤ 4294967296) (hin : x.ints) (h4 : ¬ x.norm.kind = 4) (h5 : ¬ x.norm.kind = 5) :
    Calls Tryz.prog 24 #[.agg cs.toArray] w fun e w' => e = .returned (.int .i64 0) ∧ Below w.heap.size w w' := by
  have cX := fun (W : World) (hb : Below w.heap.size w W) => rnorm_any x W cs (kV.K_below hb hK) (by omega) hin
  obtain ⟨A, c, B, d, rfl, _⟩ := kV_open hK
  unfold JV.cells at cX ⊢
  have hB0 := (Below.refl _ w).alloc (Nat.le_refl _) (.cells #[.int .i64 x.kind, .bool x.truth, .bool x.neg, .string x.digits, .int .i64 x.exp, .string x.text, .slice A x.list.length c, .slice B x.fields.length d] 27)
  have b4 : (x.norm.kind != 4) = true := by simpa using h4
  have b5 : (x.norm.kind != 5) = true := by simpa using h5
  generalize x.norm = y at *
  replace hB0 := Aside0.mk hB0
  clear hK hwt
  go_enter Tryz.func24, Tryz.ntmps24
  go_wp2_with (go_at_call 23; refine (cX _ hB0.out).mono ?_; rintro e w1 ⟨cs1, rfl, hM1, hb1⟩; obtain ⟨vl, vf, rfl, hRl, hRf⟩ := kV_openM hM1; unfold JV.cells at hM1; obtain ⟨Al, cl, rfl⟩ := Kd.R_slice hRl; obtain ⟨Af, cf, rfl⟩ := Kd.R_slice hRf; unfold JV.cells; clear hRl hRf hM1; have hL := Aside0.mk (hB0.out.trans (hb1.mono hB0.out.size)))
  go_ret
  exact ⟨rfl, hL.out.alloc hL.out.size _⟩
theorem rdepth_step (x : JV) (hl : ∀ z ∈ x.norm.list, RDepthOK z) (hf : ∀ g ∈ x.norm.fields, RDepthOK g.value) : RDepthOK x := by
  intro w cs hK hwt hwn hin
  have hN := norm_isN x
  have hI := norm_ints x
  rcases hx : x.norm with ⟨k, t, n, d, e, s, l, f⟩
  rw [hx] at hN hI hl hf
  simp only [JV.list, JV.fields] at hl hf
  have flat : ∀ {y : JV}, x.norm = y → y.kind ≠ 4 → y.kind ≠ 5 → y.deep = 0 → Calls Tryz.prog 24 #[.agg cs.toArray] w fun e w' => e = .returned (.int .i64 y.deep) ∧ Below w.heap.size w w' := by
    intro y hy h4 h5 h0
    rw [h0]
    exact rdepth_rest x w cs hK hwt hin (by rw [hy]; exact h4) (by rw [hy]; exact h5)
  rw [JV.isN] at hN
  rw [JV.ints] at hI
  rcases hN with ⟨rfl, rfl, rfl, rfl, rfl, rfl, rfl, rfl⟩ | ⟨rfl, rfl, rfl, rfl, rfl, rfl, rfl⟩ | ⟨rfl, rfl, hN, rfl, rfl, rfl⟩ | ⟨rfl, rfl, rfl, rfl, rfl, hv, rfl, rfl⟩ | ⟨rfl, rfl, rfl, rfl, rfl, rfl, hL, rfl⟩ | ⟨rfl, rfl, rfl, rfl, rfl, rfl, rfl, hF, hr⟩
  · exact flat hx (by show (0 : Int) ≠ 4; decide) (by show (0 : Int) ≠ 5; decide) (by rw [JV.deep]; rfl)
  · exact flat hx (by show (1 : Int) ≠ 4; decide) (by show (1 : Int) ≠ 5; decide) (by rw [JV.deep]; rfl)
  · exact flat hx (by show (2 : Int) ≠ 4; decide) (by show (2 : Int) ≠ 5; decide) (by rw [JV.deep]; rfl)
  · exact flat hx (by show (3 : Int) ≠ 4; decide) (by show (3 : Int) ≠ 5; decide) (by rw [JV.deep]; rfl)
  · have hd : (JV.mk 4 false false ⟨#[]⟩ 0 ⟨#[]⟩ l []).deep = 1 + JV.deepL l := by rw [JV.deep]; rfl
    rw [hd]
    exact rdepth_list x w cs hK hwt hwn hin l hx (fun z hz => ⟨hl z hz, norm_of_isN z (isNL_iff.1 hL z hz), ints_memL hz hI.2.2.1⟩)
  · have hd : (JV.mk 5 false false ⟨#[]⟩ 0 ⟨#[]⟩ [] f).deep = 1 + JV.deepF f := by rw [JV.deep]; rfl
    rw [hd]
    exact rdepth_obj x w cs hK hwt hwn hin f hx (fun z hz => ⟨hf z hz, norm_of_isN z.value (isNF_iff.1 hF z hz).2, ints_memF hz hI.2.2.2⟩)
theorem rdepth_all : ∀ (n : Nat) (x : JV), x.norm.deep < n → RDepthOK x
  | 0, x, h => by omega
  | n + 1, x, h => by
    have hN := norm_isN x
    refine rdepth_step x (fun z hz => rdepth_all n z ?_) (fun g hg => rdepth_all n g.value ?_)
    · rcases hx : x.norm with ⟨k, t, m, d, e, s, l, f⟩
      rw [hx] at hN hz h
      simp only [JV.list] at hz
      rw [JV.isN] at hN
      rcases hN with ⟨_, _, _, _, _, _, rfl, rfl⟩ | ⟨_, _, _, _, _, rfl, rfl⟩ | ⟨_, _, _, _, rfl, rfl⟩ | ⟨_, _, _, _, _, _, rfl, rfl⟩ | ⟨rfl, _, _, _, _, _, hL, rfl⟩ | ⟨_, _, _, _, _, _, rfl, hF, _⟩
      · cases hz
      · cases hz
      · cases hz
      · cases hz
      · have h1 : (JV.mk 4 t m d e s l []).deep = 1 + JV.deepL l := by rw [JV.deep]; rfl
        have := deepL_mem hz
        rw [norm_of_isN z (isNL_iff.1 hL z hz)]
        omega
      · cases hz
    · rcases hx : x.norm with ⟨k, t, m, d, e, s, l, f⟩
      rw [hx] at hN hg h
      simp only [JV.fields] at hg
      rw [JV.isN] at hN
      rcases hN with ⟨_, _, _, _, _, _, rfl, rfl⟩ | ⟨_, _, _, _, _, rfl, rfl⟩ | ⟨_, _, _, _, rfl, rfl⟩ | ⟨_, _, _, _, _, _, rfl, rfl⟩ | ⟨rfl, _, _, _, _, _, hL, rfl⟩ | ⟨rfl, _, _, _, _, _, rfl, hF, _⟩
      · cases hg
      · cases hg
      · cases hg
      · cases hg
      · cases hg
      · have h1 : (JV.mk 5 t m d e s [] f).deep = 1 + JV.deepF f := by rw [JV.deep]; rfl
        have := deepF_mem hg
        rw [norm_of_isN g.value (isNF_iff.1 hF g hg).2]
        omega
/-- **voyageref02.Depth.** -/
theorem rdepth_any (x : JV) : RDepthOK x := rdepth_all _ x (Nat.lt_succ_self _)
end Go.Proofs.YtmfijfcikecglaaGreatDoor
end
section
set_option linter.unusedVariables false
set_option linter.unusedSimpArgs false
namespace Go.Proofs.YtmfijfcikecglaaGreatDoor
open Go Go.RowKit

theorem sevF_all {σ : Type} (s : ByteArray) (c : Nat) (each : Nat → σ → PR σ) (P : σ → Prop) (hw : ∀ i x y j, each i x = .ok y j → P x → P y) : ∀ (n i : Nat) (x y : σ) (j : Nat), sevF s c each n i x = .ok y j → P x → P y
  | 0, i, x, y, j, h, hp => by rw [sevF] at h; cases h
  | n + 1, i, x, y, j, h, hp => by
    rw [sevF] at h
    cases he : each i x with
    | no k e => rw [he] at h; cases h
    | ok z k =>
      rw [he] at h
      simp only at h
      have hz := hw _ _ _ _ he hp
      split at h
      · exact sevF_all s c each P hw n _ _ _ _ h hz
      · split at h
        · injection h with h0 h; subst h0; exact hz
        · cases h
theorem sevAt_all {σ : Type} (s : ByteArray) (c : Nat) (each : Nat → σ → PR σ) (P : σ → Prop) (hw : ∀ i x y j, each i x = .ok y j → P x → P y) {i : Nat} {x y : σ} {j : Nat} (h : sevAt s c each i x = .ok y j) (hp : P x) : P y := by
  unfold sevAt at h
  split at h
  · injection h with h0 h; subst h0; exact hp
  · exact sevF_all s c each P hw _ _ _ _ _ h hp
def ReadDeep (D : Nat) (val : Nat → PR JV) : Prop := ∀ i x j, val i = .ok x j → x.deep ≤ D
theorem itemL_deep {D : Nat} {val : Nat → PR JV} (hv : ReadDeep D val) (i : Nat) (xs ys : List JV) (j : Nat) (h : itemL val i xs = .ok ys j) (hp : JV.deepL xs ≤ D) : JV.deepL ys ≤ D := by
  unfold itemL at h
  cases hx : val i with
  | no k e => rw [hx] at h; cases h
  | ok x k =>
    rw [hx] at h
    injection h with h0 h
    subst h0
    have h1 := hv _ _ _ hx
    rw [deepL_snoc]
    omega
theorem fieldAt_deep {D : Nat} {s : ByteArray} {val : Nat → PR JV} (hv : ReadDeep D val) (i : Nat) (fs gs : List JF) (j : Nat) (h : fieldAt s val i fs = .ok gs j) (hp : JV.deepF fs ≤ D) : JV.deepF gs ≤ D := by
  unfold fieldAt at h
  split at h
  · cases ht : textAt s i with
    | no k e => rw [ht] at h; cases h
    | ok l k =>
      rw [ht] at h
      simp only at h
      split at h
      · cases h
      · split at h
        · cases hx : val (gapTo s (gapTo s k + 1)) with
          | no k2 e => rw [hx] at h; cases h
          | ok x k2 =>
            rw [hx] at h
            have h2 := hv _ _ _ hx
            unfold fieldOf at h
            injection h with h5 h6
            subst h5
            rw [deepF_snoc]
            show max (JV.deepF fs) x.deep ≤ D
            omega
        · cases h
  · cases h
theorem textVal_deep {s : ByteArray} {i : Nat} {x : JV} {j : Nat} (h : textVal s i = .ok x j) : x.deep = 0 := by
  unfold textVal at h
  cases ht : textAt s i with
  | no k e => rw [ht] at h; cases h
  | ok l k =>
    rw [ht] at h
    injection h with h0 h
    subst h0
    rw [JV.deep]; rfl
theorem litAt_deep {s : ByteArray} {i : Nat} {x : JV} {j : Nat} (h : litAt s i = .ok x j) : x.deep = 0 := by
  unfold litAt at h
  repeat' split at h
  all_goals (first | (injection h with h0 h; subst h0; unfold JV.nul; rw [JV.deep]; rfl) | (injection h with h0 h; subst h0; rw [JV.deep]; rfl) | cases h)
theorem numberAt_deep {s : ByteArray} {i : Nat} {x : JV} {j : Nat} (h : numberAt s i = .ok x j) : x.deep = 0 := by
  unfold numberAt at h
  repeat' split at h
  all_goals (first | (injection h with h0 h; subst h0; rw [JV.deep]; rfl) | cases h)
theorem valWith_deep {D : Nat} {s : ByteArray} {lst obj : PR JV} {i : Nat} (hl : ∀ x j, lst = .ok x j → x.deep ≤ D) (ho : ∀ x j, obj = .ok x j → x.deep ≤ D) {x : JV} {j : Nat} (h : valWith s lst obj i = .ok x j) : x.deep ≤ D := by
  unfold valWith at h
  split at h
  · exact hl _ _ h
  · split at h
    · exact ho _ _ h
    · split at h
      · rw [textVal_deep h]; exact Nat.zero_le _
      · split at h
        · rw [numberAt_deep h]; exact Nat.zero_le _
        · rw [litAt_deep h]; exact Nat.zero_le _
/-- What is read with so many brackets is no deeper. -/
theorem valF_deep (s : ByteArray) : ∀ (D : Nat), ReadDeep D (valF s D)
  | 0, i, x, j, h => by
    rw [valF] at h
    exact valWith_deep (fun x j h => by cases h) (fun x j h => by cases h) h
  | D + 1, i, x, j, h => by
    rw [valF] at h
    refine valWith_deep (fun x j h => ?_) (fun x j h => ?_) h
    · cases hp : sevAt s 93 (itemL (valF s D)) i [] with
      | no k e => rw [hp] at h; cases h
      | ok xs k =>
        rw [hp] at h
        injection h with h0 h
        have h1 := sevAt_all s 93 _ (fun l => JV.deepL l ≤ D) (itemL_deep (valF_deep s D)) hp (Nat.zero_le _)
        subst h0
        rw [JV.deep]
        show 1 + JV.deepL xs ≤ D + 1
        have : JV.deepL xs ≤ D := h1
        omega
    · cases hp : sevAt s 125 (fieldAt s (valF s D)) i [] with
      | no k e => rw [hp] at h; cases h
      | ok xs k =>
        rw [hp] at h
        injection h with h0 h
        have h1 := sevAt_all s 125 _ (fun l => JV.deepF l ≤ D) (fieldAt_deep (valF_deep s D)) hp (Nat.zero_le _)
        subst h0
        rw [JV.deep]
        show 1 + JV.deepF xs ≤ D + 1
        have : JV.deepF xs ≤ D := h1
        omega
end Go.Proofs.YtmfijfcikecglaaGreatDoor
end
section
set_option linter.unusedVariables false
set_option linter.unusedSimpArgs false
namespace Go.Proofs.YtmfijfcikecglaaGreatDoor
open Go Go.RowKit

theorem deepF_app : ∀ (a b : List JF), JV.deepF (a ++ b) = max (JV.deepF a) (JV.deepF b)
  | [], b => by simp [JV.deepF]
  | .mk nm v :: a, b => by
    show JV.deepF (.mk nm v :: (a ++ b)) = _
    rw [JV.deepF, JV.deepF, deepF_app a b]; omega
theorem tw_dw {α : Type} (p : α → Bool) (l : List α) : l = l.takeWhile p ++ l.dropWhile p := (List.takeWhile_append_dropWhile).symm
theorem insF_deep (out : List JF) (nm : ByteArray) (v : JV) : JV.deepF (insF out nm v) ≤ max (JV.deepF out) v.deep := by
  unfold insF
  split
  · omega
  · have h := congrArg JV.deepF (tw_dw (fun f : JF => lessB f.name nm) out)
    rw [deepF_app] at h
    rw [deepF_app, JV.deepF]
    omega
mutual
theorem norm_deep : ∀ (x : JV), x.norm.deep ≤ x.deep
  | .mk k t n d e s l f => by
    rw [JV.norm]
    have h1 := normL_deep l
    have h2 := normF_deep f []
    rw [JV.deepF, Nat.zero_max] at h2
    split
    · rw [JV.deep]; exact Nat.zero_le _
    · split
      · rw [JV.deep]; exact Nat.zero_le _
      · split
        · rw [JV.deep]; exact Nat.zero_le _
        · split
          · rename_i h4
            rw [JV.deep, JV.deep, if_pos rfl, if_pos h4]; omega
          · split
            · rename_i h4 h5
              rw [JV.deep, JV.deep, if_neg (by decide), if_pos rfl, if_neg h4, if_pos h5]; omega
            · unfold JV.nul; rw [JV.deep]; exact Nat.zero_le _
theorem normL_deep : ∀ (l : List JV), JV.deepL (JV.normL l) ≤ JV.deepL l
  | [] => Nat.le_refl _
  | x :: l => by
    rw [JV.normL, JV.deepL, JV.deepL]
    have := norm_deep x
    have := normL_deep l
    omega
theorem normF_deep : ∀ (l : List JF) (out : List JF), JV.deepF (JV.normF l out) ≤ max (JV.deepF out) (JV.deepF l)
  | [], out => by rw [JV.normF]; omega
  | .mk nm v :: l, out => by
    rw [JV.normF, JV.deepF]
    have h1 := normF_deep l (insF out (clean nm) v.norm)
    have h2 := insF_deep out (clean nm) v.norm
    have h3 := norm_deep v
    omega
end
end Go.Proofs.YtmfijfcikecglaaGreatDoor
end
section
set_option linter.unusedVariables false
set_option linter.unusedSimpArgs false
namespace Go.Proofs.YtmfijfcikecglaaGreatDoor
open Go Go.RowKit

def More (v1 v2 : Nat → PR JV) : Prop := ∀ i x j, v1 i = .ok x j → v2 i = .ok x j
end Go.Proofs.YtmfijfcikecglaaGreatDoor
end
section
set_option linter.unusedVariables false
set_option linter.unusedSimpArgs false
namespace Go.Proofs.YtmfijfcikecglaaGreatDoor
open Go Go.RowKit

theorem told_gap (x : JV) (hx : x.isN) : gapTo ⟨x.put.toArray⟩ 0 = 0 := by
  obtain ⟨c, q, hq, ho⟩ := put_first x hx
  apply gap_stay
  have hall : Has ⟨x.put.toArray⟩ 0 x.put := by have := Has.all ⟨x.put.toArray⟩; simpa using this
  have hb : byteAt ⟨x.put.toArray⟩ 0 = c.toNat := by
    rw [hq] at hall ⊢
    exact hall.head.1
  rw [hb]
  exact opens_gap ho
/-- Told, and no deeper than may be: read as it. -/
theorem parse_told (x : JV) (hx : x.isN) (hD : x.deep ≤ 64) : ∃ j, parseTo ⟨x.put.toArray⟩ = .ok x j := by
  have h := back_whole x hx hD
  have hsz : (⟨x.put.toArray⟩ : ByteArray).size = x.put.length := size_mk _
  refine ⟨x.put.length, ?_⟩
  unfold parseTo
  rw [told_gap x hx, h]
  show (if gapTo _ x.put.length < _ then _ else _) = _
  have hg : gapTo ⟨x.put.toArray⟩ x.put.length = x.put.length := gap_stay (by rw [byteAt_end (by rw [hsz]; omega)]; rfl)
  rw [hg, if_neg (by rw [hsz]; omega), norm_of_isN x hx]
/-- What Parse gives is in its one form, and no deeper than may be. -/
theorem parse_sound {s : ByteArray} {x : JV} {j : Nat} (h : parseTo s = .ok x j) : x.isN ∧ x.deep ≤ 64 := by
  unfold parseTo at h
  cases hv : valF s 64 (gapTo s 0) with
  | no k e => rw [hv] at h; cases h
  | ok y k =>
    rw [hv] at h
    simp only at h
    split at h
    · cases h
    · injection h with h1 h2
      subst h1
      exact ⟨norm_isN y, Nat.le_trans (norm_deep y) (valF_deep s 64 _ _ _ hv)⟩
end Go.Proofs.YtmfijfcikecglaaGreatDoor
end
section
set_option linter.unusedVariables false
set_option linter.unusedSimpArgs false
namespace Go.Proofs.YtmfijfcikecglaaGreatDoor
open Go Go.RowKit

/-- A reading ends, or fails, within the text. -/
def PR.inn {α : Type} (n : Nat) : PR α → Prop
  | .ok _ j => j ≤ n
  | .no k _ => k ≤ n
theorem textF_inn (s : ByteArray) : ∀ (n j : Nat) (acc : List UInt8), j ≤ s.size → (textF s n j acc).inn s.size
  | 0, j, acc, h => h
  | n + 1, j, acc, h => by
    rw [textF]
    split
    · rename_i h1
      have := byteAt_in (s := s) (i := j) (by omega)
      show j + 1 ≤ s.size
      omega
    · split
      · exact h
      · exact textF_inn s n _ _ (letAt_le s j h).1
theorem textAt_inn (s : ByteArray) (i : Nat) (h : i < s.size) : (textAt s i).inn s.size := textF_inn s _ _ _ (by omega)
theorem textVal_inn (s : ByteArray) (i : Nat) (h : i < s.size) : (textVal s i).inn s.size := by
  unfold textVal
  have h1 := textAt_inn s i h
  cases ht : textAt s i with
  | no k e => rw [ht] at h1; exact h1
  | ok l k => rw [ht] at h1; exact h1
theorem pre_size {s : ByteArray} {i : Nat} {p : List UInt8} (hi : i ≤ s.size) (h : preAt s i p = true) : i + p.length ≤ s.size := by
  unfold preAt Lib.hasPrefix at h
  have h1 := (List.isPrefixOf_iff_prefix.1 h).length_le
  have h2 : (s.extract i s.size).data.toList.length = (s.extract i s.size).size := Array.length_toList
  rw [h2, ByteArray.size_extract] at h1
  omega
theorem litAt_inn (s : ByteArray) (i : Nat) (h : i ≤ s.size) : (litAt s i).inn s.size := by
  unfold litAt
  split
  · rename_i h1; exact pre_size h h1
  · split
    · rename_i h1; exact pre_size h h1
    · split
      · rename_i h1; exact pre_size h h1
      · exact h
theorem numberAt_inn (s : ByteArray) (i : Nat) (h : i ≤ s.size) : (numberAt s i).inn s.size := by
  unfold numberAt
  split
  · exact numTo_size s _ i h
  · exact h
theorem sevF_inn {σ : Type} (s : ByteArray) (c : Nat) (hc : 0 < c) (each : Nat → σ → PR σ) (hw : ∀ i x, i ≤ s.size → (each i x).inn s.size) : ∀ (n i : Nat) (x : σ), i ≤ s.size → (sevF s c each n i x).inn s.size
  | 0, i, x, h => h
  | n + 1, i, x, h => by
    rw [sevF]
    have h1 := hw i x h
    cases he : each i x with
    | no k e => rw [he] at h1; exact h1
    | ok z k =>
      rw [he] at h1
      have h2 : k ≤ s.size := h1
      have h3 := gapTo_size s k h2
      simp only
      split
      · rename_i hb
        have := byteAt_in (s := s) (i := gapTo s k) (by omega)
        exact sevF_inn s c hc each hw n _ _ (gapTo_size s _ (by omega))
      · split
        · rename_i hb
          have := byteAt_in (s := s) (i := gapTo s k) (by omega)
          show gapTo s k + 1 ≤ s.size
          omega
        · exact h3
theorem sevAt_inn {σ : Type} (s : ByteArray) (c : Nat) (hc : 0 < c) (each : Nat → σ → PR σ) (hw : ∀ i x, i ≤ s.size → (each i x).inn s.size) (i : Nat) (x : σ) (h : i < s.size) : (sevAt s c each i x).inn s.size := by
  unfold sevAt
  have h3 := gapTo_size s (i + 1) (by omega)
  split
  · rename_i hb
    have := byteAt_in (s := s) (i := gapTo s (i + 1)) (by omega)
    show gapTo s (i + 1) + 1 ≤ s.size
    omega
  · exact sevF_inn s c hc each hw _ _ _ h3
theorem itemL_inn {s : ByteArray} {val : Nat → PR JV} (hv : ∀ i, i ≤ s.size → (val i).inn s.size) (i : Nat) (xs : List JV) (h : i ≤ s.size) : (itemL val i xs).inn s.size := by
  unfold itemL
  have h1 := hv i h
  cases hx : val i with
  | no k e => rw [hx] at h1; exact h1
  | ok x k => rw [hx] at h1; exact h1
theorem fieldAt_inn {s : ByteArray} {val : Nat → PR JV} (hv : ∀ i, i ≤ s.size → (val i).inn s.size) (i : Nat) (fs : List JF) (h : i ≤ s.size) : (fieldAt s val i fs).inn s.size := by
  unfold fieldAt
  split
  · rename_i hb
    have hi := byteAt_in (s := s) (i := i) (by omega)
    have h1 := textAt_inn s i hi
    cases ht : textAt s i with
    | no k e => rw [ht] at h1; exact h1
    | ok l k =>
      rw [ht] at h1
      have hk : k ≤ s.size := h1
      have h2 := gapTo_size s k hk
      simp only
      split
      · exact h
      · split
        · rename_i hb2
          have := byteAt_in (s := s) (i := gapTo s k) (by omega)
          have h3 := hv (gapTo s (gapTo s k + 1)) (gapTo_size s _ (by omega))
          cases hx : val (gapTo s (gapTo s k + 1)) with
          | no k2 e => rw [hx] at h3; exact h3
          | ok x k2 => rw [hx] at h3; exact h3
        · exact h2
  · exact h
theorem valWith_inn {s : ByteArray} {lst obj : PR JV} {i : Nat} (h : i ≤ s.size) (hl : i < s.size → lst.inn s.size) (ho : i < s.size → obj.inn s.size) : (valWith s lst obj i).inn s.size := by
  unfold valWith
  split
  · exact hl (byteAt_in (by omega))
  · split
    · exact ho (byteAt_in (by omega))
    · split
      · exact textVal_inn s i (byteAt_in (by omega))
      · split
        · exact numberAt_inn s i h
        · exact litAt_inn s i h
theorem listOf_inn {n : Nat} {p : PR (List JV)} (h : p.inn n) : (listOf p).inn n := by cases p <;> exact h
theorem objOf_inn {n : Nat} {p : PR (List JF)} (h : p.inn n) : (objOf p).inn n := by cases p <;> exact h
theorem valF_inn (s : ByteArray) : ∀ (D i : Nat), i ≤ s.size → (valF s D i).inn s.size
  | 0, i, h => by rw [valF]; exact valWith_inn h (fun _ => h) (fun _ => h)
  | D + 1, i, h => by
    rw [valF]
    exact valWith_inn h (fun hi => listOf_inn (sevAt_inn s 93 (by omega) _ (fun i x hi => itemL_inn (valF_inn s D) i x hi) i [] hi)) (fun hi => objOf_inn (sevAt_inn s 125 (by omega) _ (fun i x hi => fieldAt_inn (valF_inn s D) i x hi) i [] hi))
/-- A fault of Parse stands within the text. -/
theorem parse_at_in {s : ByteArray} {k : Nat} {e : PE} (h : parseTo s = .no k e) : k ≤ s.size := by
  unfold parseTo at h
  have h1 := valF_inn s 64 (gapTo s 0) (gapTo_size s 0 (Nat.zero_le _))
  cases hv : valF s 64 (gapTo s 0) with
  | no k2 e2 => rw [hv] at h h1; injection h with h2 h3; subst h2; exact h1
  | ok y j =>
    rw [hv] at h h1
    simp only at h
    split at h
    · injection h with h2 h3; subst h2; exact gapTo_size s j h1
    · cases h
end Go.Proofs.YtmfijfcikecglaaGreatDoor
end
