/- There and back, plainly: the one form of values. The one form is no deeper; reading is one whatever the depth allowed: plain. A reading stays the same where more brackets are allowed: plain. There and back, plainly: **a value in its one form, told, is read as it**; so two that are told alike are one. What is told of a value in its one form: read as it, or at fault where it is too deep: plain. What is told with gaps about its brackets, commas and colons is read as what is told without: plain. -/
import Derived.Test.YtmfijfcikecglaaGreatDoorH22
import Derived.Test.YtmfijfcikecglaaGreatDoorH19
import Derived.Test.YtmfijfcikecglaaGreatDoorH20
section
set_option linter.unusedVariables false
set_option linter.unusedSimpArgs false
namespace Go.Proofs.YtmfijfcikecglaaGreatDoor
open Go Go.RowKit

mutual
/-- A value in its one form. -/
def JV.isN : JV → Prop
  | .mk k t n d e s l f =>
    (k = 0 ∧ t = false ∧ n = false ∧ d = ⟨#[]⟩ ∧ e = 0 ∧ s = ⟨#[]⟩ ∧ l = [] ∧ f = []) ∨
    (k = 1 ∧ n = false ∧ d = ⟨#[]⟩ ∧ e = 0 ∧ s = ⟨#[]⟩ ∧ l = [] ∧ f = []) ∨
    (k = 2 ∧ t = false ∧ NumN n d e ∧ s = ⟨#[]⟩ ∧ l = [] ∧ f = []) ∨
    (k = 3 ∧ t = false ∧ n = false ∧ d = ⟨#[]⟩ ∧ e = 0 ∧ Lib.validD s.data.toList = true ∧ l = [] ∧ f = []) ∨
    (k = 4 ∧ t = false ∧ n = false ∧ d = ⟨#[]⟩ ∧ e = 0 ∧ s = ⟨#[]⟩ ∧ JV.isNL l ∧ f = []) ∨
    (k = 5 ∧ t = false ∧ n = false ∧ d = ⟨#[]⟩ ∧ e = 0 ∧ s = ⟨#[]⟩ ∧ l = [] ∧ JV.isNF f ∧ Rising f)
def JV.isNL : List JV → Prop
  | [] => True
  | x :: xs => x.isN ∧ JV.isNL xs
def JV.isNF : List JF → Prop
  | [] => True
  | .mk nm v :: xs => (Lib.validD nm.data.toList = true ∧ v.isN) ∧ JV.isNF xs
end
theorem isNL_iff : ∀ {l : List JV}, JV.isNL l ↔ ∀ x ∈ l, x.isN
  | [] => by rw [JV.isNL]; simp
  | x :: l => by rw [JV.isNL, isNL_iff (l := l)]; simp
theorem isNF_iff : ∀ {l : List JF}, JV.isNF l ↔ ∀ f ∈ l, Lib.validD f.name.data.toList = true ∧ f.value.isN
  | [] => by rw [JV.isNF]; simp
  | .mk nm v :: l => by rw [JV.isNF, isNF_iff (l := l)]; simp [JF.name, JF.value]
theorem mem_insF {out : List JF} {nm : ByteArray} {v : JV} {f : JF} (h : f ∈ insF out nm v) : f ∈ out ∨ f = .mk nm v := by
  unfold insF at h
  split at h
  · exact .inl h
  · rcases List.mem_append.1 h with h | h
    · exact .inl ((List.takeWhile_sublist _).subset h)
    · rcases List.mem_cons.1 h with h | h
      · exact .inr h
      · exact .inl ((List.dropWhile_sublist _).subset h)
mutual
theorem norm_isN : ∀ (x : JV), x.norm.isN
  | .mk k t n d e s l f => by
    rw [JV.norm]
    split
    · rw [JV.isN]; exact .inr (.inl ⟨rfl, rfl, rfl, rfl, rfl, rfl, rfl⟩)
    · split
      · rw [JV.isN]; exact .inr (.inr (.inl ⟨rfl, rfl, numN_form n d e, rfl, rfl, rfl⟩))
      · split
        · rw [JV.isN]; exact .inr (.inr (.inr (.inl ⟨rfl, rfl, rfl, rfl, rfl, clean_valid s, rfl, rfl⟩)))
        · split
          · rw [JV.isN]; exact .inr (.inr (.inr (.inr (.inl ⟨rfl, rfl, rfl, rfl, rfl, rfl, normL_isN l, rfl⟩))))
          · split
            · rw [JV.isN]; exact .inr (.inr (.inr (.inr (.inr ⟨rfl, rfl, rfl, rfl, rfl, rfl, rfl, normF_isN f [] (by rw [JV.isNF]; trivial), rising_normF f [] rising_nil⟩))))
            · unfold JV.nul; rw [JV.isN]; exact .inl ⟨rfl, rfl, rfl, rfl, rfl, rfl, rfl, rfl⟩
theorem normL_isN : ∀ (l : List JV), JV.isNL (JV.normL l)
  | [] => by rw [JV.normL, JV.isNL]; trivial
  | x :: l => by rw [JV.normL, JV.isNL]; exact ⟨norm_isN x, normL_isN l⟩
theorem normF_isN : ∀ (l : List JF) (out : List JF), JV.isNF out → JV.isNF (JV.normF l out)
  | [], out, h => by rw [JV.normF]; exact h
  | .mk nm v :: l, out, h => by
    rw [JV.normF]
    refine normF_isN l _ (isNF_iff.2 fun f hf => ?_)
    rcases mem_insF hf with hf | rfl
    · exact isNF_iff.1 h f hf
    · exact ⟨clean_valid nm, norm_isN v⟩
end
theorem while_all {α : Type} (p : α → Bool) : ∀ (l : List α), (∀ x ∈ l, p x = true) → l.takeWhile p = l ∧ l.dropWhile p = []
  | [], _ => ⟨rfl, rfl⟩
  | a :: l, h => by
    obtain ⟨h1, h2⟩ := while_all p l (fun x hx => h x (.tail _ hx))
    have ha := h a (.head _)
    rw [List.takeWhile_cons, List.dropWhile_cons, ha, h2]
    simp [h1]
/-- A name greater than all goes to the end. -/
theorem insF_end {out : List JF} {nm : ByteArray} {v : JV} (h : ∀ f ∈ out, lessB f.name nm = true) : insF out nm v = out ++ [.mk nm v] := by
  unfold insF
  have h1 : out.any (fun f => sameB f.name nm) = false := by
    rw [List.any_eq_false]
    intro f hf hs
    have e := sameB_iff.1 hs
    have := h f hf
    rw [e, lessB_irrefl] at this
    cases this
  obtain ⟨h2, h3⟩ := while_all (fun f : JF => lessB f.name nm) out h
  rw [h1, h2, h3]
  rfl
mutual
/-- The one form's one form is itself. -/
theorem norm_of_isN : ∀ (x : JV), x.isN → x.norm = x
  | .mk k t n d e s l f, h => by
    rw [JV.isN] at h
    rcases h with ⟨rfl, rfl, rfl, rfl, rfl, rfl, rfl, rfl⟩ | ⟨rfl, rfl, rfl, rfl, rfl, rfl, rfl⟩ | ⟨rfl, rfl, hN, rfl, rfl, rfl⟩ | ⟨rfl, rfl, rfl, rfl, rfl, hv, rfl, rfl⟩ | ⟨rfl, rfl, rfl, rfl, rfl, rfl, hl, rfl⟩ | ⟨rfl, rfl, rfl, rfl, rfl, rfl, rfl, hf, hr⟩
    · rw [JV.norm]; rfl
    · rw [JV.norm]; rfl
    · rw [JV.norm]; unfold decNorm; rw [form_numN hN]; rfl
    · rw [JV.norm, clean_of_valid hv]; rfl
    · rw [JV.norm, normL_of_isN l hl]; rfl
    · rw [JV.norm, normF_of_isN f [] hf (by simpa using hr)]; rfl
theorem normL_of_isN : ∀ (l : List JV), JV.isNL l → JV.normL l = l
  | [], _ => by rw [JV.normL]
  | x :: l, h => by
    rw [JV.isNL] at h
    rw [JV.normL, norm_of_isN x h.1, normL_of_isN l h.2]
theorem normF_of_isN : ∀ (l : List JF) (out : List JF), JV.isNF l → Rising (out ++ l) → JV.normF l out = out ++ l
  | [], out, _, _ => by rw [JV.normF, List.append_nil]
  | .mk nm v :: l, out, h, hr => by
    rw [JV.isNF] at h
    rw [JV.normF, clean_of_valid h.1.1, norm_of_isN v h.1.2, insF_end (fun f hf => ?_), normF_of_isN l _ h.2 (by rw [List.append_assoc]; exact hr), List.append_assoc]
    · rfl
    · exact (List.pairwise_append.1 hr).2.2 f hf (.mk nm v) (.head _)
end
theorem norm_norm (x : JV) : x.norm.norm = x.norm := norm_of_isN _ (norm_isN x)

/-! ### words and gaps -/
theorem Has.take {s : ByteArray} {j : Nat} {q : List UInt8} (h : Has s j q) : (s.data.toList.drop j).take q.length = q := by
  have h2 := Has.part s j q.length h.1
  apply List.ext_getElem?
  intro k
  by_cases hk : k < q.length
  · have hl : k < ((s.data.toList.drop j).take q.length).length := by have h3 := h.1; have h5 : s.data.toList.length = s.size := Array.length_toList; rw [List.length_take, List.length_drop, h5]; omega
    have a := h2.2 k _ (List.getElem?_eq_getElem hl)
    have b := h.2 k _ (List.getElem?_eq_getElem hk)
    rw [List.getElem?_eq_getElem hl, List.getElem?_eq_getElem hk]
    congr 1
    exact UInt8.toNat_inj.1 (a.symm.trans b)
  · rw [List.getElem?_eq_none (by rw [List.length_take]; omega), List.getElem?_eq_none (by omega)]
theorem extract_drop (s : ByteArray) (i : Nat) : (s.extract i s.size).data.toList = s.data.toList.drop i := by
  have h5 : s.data.toList.length = s.size := Array.length_toList
  rw [ByteArray.data_extract, Array.toList_extract, List.extract_eq_take_drop, List.take_of_length_le (by rw [List.length_drop, h5]; omega)]
theorem pre_yes {s : ByteArray} {i : Nat} {p : List UInt8} (h : Has s i p) : preAt s i p = true := by
  unfold preAt Lib.hasPrefix
  rw [extract_drop, List.isPrefixOf_iff_prefix]
  refine ⟨(s.data.toList.drop i).drop p.length, ?_⟩
  have := List.take_append_drop p.length (s.data.toList.drop i)
  rw [h.take] at this
  exact this
theorem pre_no {s : ByteArray} {i : Nat} {c : UInt8} {p : List UInt8} (h : byteAt s i ≠ c.toNat) : preAt s i (c :: p) = false := by
  cases hp : preAt s i (c :: p) with
  | false => rfl
  | true =>
    exfalso
    unfold preAt Lib.hasPrefix at hp
    rw [extract_drop, List.isPrefixOf_iff_prefix] at hp
    obtain ⟨r, hr⟩ := hp
    have hl : i < s.size := by
      have h5 : s.data.toList.length = s.size := Array.length_toList
      have := congrArg List.length hr
      simp only [List.length_append, List.length_cons, List.length_drop, h5] at this
      omega
    have h2 := Has.part s i 1 (by omega)
    rw [← hr] at h2
    exact h h2.head.1
theorem gap_stay {s : ByteArray} {i : Nat} (h : isGap (byteAt s i) = false) : gapTo s i = i := by
  rw [gapTo, if_neg (fun hx => by rw [h] at hx; exact absurd hx.2 (by simp))]
/-- A byte with which a value may begin. -/
def opens (n : Nat) : Prop := n = 110 ∨ n = 116 ∨ n = 102 ∨ n = 45 ∨ (48 ≤ n ∧ n ≤ 57) ∨ n = 34 ∨ n = 91 ∨ n = 123
theorem opens_gap {n : Nat} (h : opens n) : isGap n = false := by
  unfold opens at h
  unfold isGap
  simp only [Bool.or_eq_false_iff, beq_eq_false_iff_ne]
  omega
theorem put_first : ∀ (x : JV), x.isN → ∃ c q, x.put = c :: q ∧ opens c.toNat
  | .mk k t n d e s l f, h => by
    rw [JV.isN] at h
    unfold opens
    rcases h with ⟨rfl, rfl, rfl, rfl, rfl, rfl, rfl, rfl⟩ | ⟨rfl, rfl, rfl, rfl, rfl, rfl, rfl⟩ | ⟨rfl, rfl, hN, rfl, rfl, rfl⟩ | ⟨rfl, rfl, rfl, rfl, rfl, hv, rfl, rfl⟩ | ⟨rfl, rfl, rfl, rfl, rfl, rfl, hl, rfl⟩ | ⟨rfl, rfl, rfl, rfl, rfl, rfl, rfl, hf, hr⟩
    · rw [JV.put]; exact ⟨110, _, rfl, by decide⟩
    · rw [JV.put]
      cases t with
      | true => exact ⟨116, _, rfl, by decide⟩
      | false => exact ⟨102, _, rfl, by decide⟩
    · rw [JV.put]
      obtain ⟨c, q, e, hc⟩ := text_first hN
      exact ⟨c, q, e, by omega⟩
    · rw [JV.put]; exact ⟨34, _, rfl, by decide⟩
    · rw [JV.put]
      cases l with
      | nil => exact ⟨91, [93], rfl, by decide⟩
      | cons x l => exact ⟨91, _, rfl, by decide⟩
    · rw [JV.put]
      cases f with
      | nil => exact ⟨123, [125], rfl, by decide⟩
      | cons x l =>
        obtain ⟨nm, v⟩ := x
        exact ⟨123, _, rfl, by decide⟩
end Go.Proofs.YtmfijfcikecglaaGreatDoor
end
section
set_option linter.unusedVariables false
set_option linter.unusedSimpArgs false
namespace Go.Proofs.YtmfijfcikecglaaGreatDoor
open Go Go.RowKit

end Go.Proofs.YtmfijfcikecglaaGreatDoor
end
section
set_option linter.unusedVariables false
set_option linter.unusedSimpArgs false
namespace Go.Proofs.YtmfijfcikecglaaGreatDoor
open Go Go.RowKit

theorem sevF_more {σ : Type} (s : ByteArray) (c : Nat) (e1 e2 : Nat → σ → PR σ) (hw : ∀ i x y j, e1 i x = .ok y j → e2 i x = .ok y j) : ∀ (n i : Nat) (x y : σ) (j : Nat), sevF s c e1 n i x = .ok y j → sevF s c e2 n i x = .ok y j
  | 0, i, x, y, j, h => by rw [sevF] at h; cases h
  | n + 1, i, x, y, j, h => by
    rw [sevF] at h
    cases he : e1 i x with
    | no k e => rw [he] at h; cases h
    | ok z k =>
      rw [he] at h
      simp only at h
      rw [sevF, hw _ _ _ _ he]
      simp only
      split at h
      · rename_i hc
        rw [if_pos hc]
        exact sevF_more s c e1 e2 hw n _ _ _ _ h
      · rename_i hc
        rw [if_neg hc]
        exact h
theorem sevAt_more {σ : Type} (s : ByteArray) (c : Nat) (e1 e2 : Nat → σ → PR σ) (hw : ∀ i x y j, e1 i x = .ok y j → e2 i x = .ok y j) {i : Nat} {x y : σ} {j : Nat} (h : sevAt s c e1 i x = .ok y j) : sevAt s c e2 i x = .ok y j := by
  unfold sevAt at h ⊢
  split at h
  · rename_i hc
    rw [if_pos hc]; exact h
  · rename_i hc
    rw [if_neg hc]
    exact sevF_more s c e1 e2 hw _ _ _ _ _ h
theorem valWith_more {s : ByteArray} {l1 o1 l2 o2 : PR JV} {i : Nat} (hl : ∀ x j, l1 = .ok x j → l2 = .ok x j) (ho : ∀ x j, o1 = .ok x j → o2 = .ok x j) {x : JV} {j : Nat} (h : valWith s l1 o1 i = .ok x j) : valWith s l2 o2 i = .ok x j := by
  unfold valWith at h ⊢
  split at h
  · rename_i h1
    rw [if_pos h1]; exact hl _ _ h
  · rename_i h1
    rw [if_neg h1]
    split at h
    · rename_i h2
      rw [if_pos h2]; exact ho _ _ h
    · rename_i h2
      rw [if_neg h2]; exact h
def More (v1 v2 : Nat → PR JV) : Prop := ∀ i x j, v1 i = .ok x j → v2 i = .ok x j
theorem itemL_more {v1 v2 : Nat → PR JV} (hv : More v1 v2) (i : Nat) (xs ys : List JV) (j : Nat) (h : itemL v1 i xs = .ok ys j) : itemL v2 i xs = .ok ys j := by
  unfold itemL at h ⊢
  cases hx : v1 i with
  | no k e => rw [hx] at h; cases h
  | ok x k => rw [hx] at h; rw [hv _ _ _ hx]; exact h
theorem fieldAt_more {s : ByteArray} {v1 v2 : Nat → PR JV} (hv : More v1 v2) (i : Nat) (fs gs : List JF) (j : Nat) (h : fieldAt s v1 i fs = .ok gs j) : fieldAt s v2 i fs = .ok gs j := by
  unfold fieldAt at h ⊢
  split at h
  · rename_i h1
    rw [if_pos h1]
    cases ht : textAt s i with
    | no k e => rw [ht] at h; cases h
    | ok l k =>
      rw [ht] at h
      simp only at h ⊢
      split at h
      · cases h
      · rename_i h2
        rw [if_neg h2]
        split at h
        · rename_i h3
          rw [if_pos h3]
          cases hx : v1 (gapTo s (gapTo s k + 1)) with
          | no k2 e => rw [hx] at h; cases h
          | ok x k2 => rw [hx] at h; rw [hv _ _ _ hx]; exact h
        · cases h
  · cases h
theorem valF_more (s : ByteArray) : ∀ (D : Nat), More (valF s D) (valF s (D + 1))
  | 0, i, x, j, h => by
    rw [valF] at h
    rw [valF]
    exact valWith_more (fun x j h => by cases h) (fun x j h => by cases h) h
  | D + 1, i, x, j, h => by
    rw [valF] at h
    rw [valF]
    refine valWith_more (fun x j h => ?_) (fun x j h => ?_) h
    · cases hp : sevAt s 93 (itemL (valF s D)) i [] with
      | no k e => rw [hp] at h; cases h
      | ok xs k => rw [hp] at h; rw [sevAt_more s 93 _ _ (itemL_more (valF_more s D)) hp]; exact h
    · cases hp : sevAt s 125 (fieldAt s (valF s D)) i [] with
      | no k e => rw [hp] at h; cases h
      | ok xs k => rw [hp] at h; rw [sevAt_more s 125 _ _ (fieldAt_more (valF_more s D)) hp]; exact h
theorem valF_le (s : ByteArray) (D : Nat) : ∀ (n : Nat), More (valF s D) (valF s (D + n))
  | 0 => fun _ _ _ h => h
  | n + 1 => fun i x j h => valF_more s (D + n) i x j (valF_le s D n i x j h)
end Go.Proofs.YtmfijfcikecglaaGreatDoor
end
section
set_option linter.unusedVariables false
set_option linter.unusedSimpArgs false
namespace Go.Proofs.YtmfijfcikecglaaGreatDoor
open Go Go.RowKit

/-- A value is read back, wherever it is told, if nothing goes on behind it that goes on a number. -/
def Back (x : JV) : Prop := ∀ (D : Nat) (s : ByteArray) (i : Nat), x.deep ≤ D → Has s i x.put → isNum (byteAt s (i + x.put.length)) = false → valF s D i = .ok x (i + x.put.length)

theorem quoted_head {s t : ByteArray} {p : Nat} (h : Has s p (quoted t)) : byteAt s p = 34 := by
  unfold quoted at h
  exact h.head.1
theorem valF_with (s : ByteArray) (D i : Nat) : ∃ lst obj, valF s D i = valWith s lst obj i := by
  cases D with
  | zero => exact ⟨_, _, by rw [valF]⟩
  | succ D => exact ⟨_, _, by rw [valF]⟩

/-- A list's elements. -/
theorem sevL_back {s : ByteArray} {D : Nat} : ∀ (xs : List JV) (x : JV) (acc : List JV) (n p : Nat), (∀ y ∈ x :: xs, y.isN ∧ y.deep ≤ D ∧ Back y) → Has s p (x.put ++ (JV.putL 44 xs ++ [93])) → s.size < p + n →
    sevF s 93 (itemL (valF s D)) n p acc = .ok (acc ++ x :: xs) (p + (x.put ++ (JV.putL 44 xs ++ [93])).length)
  | xs, x, acc, n, p, hy, h, hn => by
    have hle := h.1
    obtain ⟨n, rfl⟩ : ∃ m, n = m + 1 := ⟨n - 1, by omega⟩
    obtain ⟨h1, h2, h3⟩ := hy x (.head _)
    have hR := h.right
    have hnext : ∃ c q, JV.putL 44 xs ++ [93] = c :: q ∧ ((xs = [] ∧ c = 93) ∨ (xs ≠ [] ∧ c = 44)) := by
      cases xs with
      | nil => rw [JV.putL]; exact ⟨93, [], rfl, .inl ⟨rfl, rfl⟩⟩
      | cons y ys => rw [JV.putL]; exact ⟨44, _, rfl, .inr ⟨by simp, rfl⟩⟩
    obtain ⟨c, q, ec, hc⟩ := hnext
    rw [ec] at hR
    have hb := hR.head.1
    have hnum : isNum (byteAt s (p + x.put.length)) = false ∧ isGap (byteAt s (p + x.put.length)) = false := by
      rw [hb]
      rcases hc with ⟨_, rfl⟩ | ⟨_, rfl⟩ <;> exact ⟨rfl, rfl⟩
    have hv := h3 D s p h2 h.left hnum.1
    have hi : itemL (valF s D) p acc = .ok (acc ++ [x]) (p + x.put.length) := by
      unfold itemL
      rw [hv]
    rw [sevF, hi]
    simp only
    rw [gap_stay hnum.2]
    rcases hc with ⟨rfl, rfl⟩ | ⟨hne, rfl⟩
    · have hb2 : byteAt s (p + x.put.length) = 93 := hb
      rw [if_neg (by omega), if_pos hb2]
      rw [JV.putL]
      simp only [List.nil_append, List.length_append, List.length_cons, List.length_nil]
      rfl
    · have hb2 : byteAt s (p + x.put.length) = 44 := hb
      rw [if_pos hb2]
      cases xs with
      | nil => exact absurd rfl hne
      | cons y ys =>
        rw [JV.putL] at ec
        have eq : y.put ++ (JV.putL 44 ys ++ [93]) = q := by
          simp only [List.cons_append] at ec
          injection ec with _ ec
          rw [← ec, List.append_assoc]
        have hT := hR.tail
        rw [← eq] at hT
        obtain ⟨c2, q2, e2, ho⟩ := put_first y (hy y (.tail _ (.head _))).1
        have hf : isGap (byteAt s (p + x.put.length + 1)) = false := by
          have := hT
          rw [e2] at this
          rw [this.head.1]
          exact opens_gap ho
        rw [gap_stay hf, sevL_back ys y (acc ++ [x]) n _ (fun z hz => hy z (.tail _ hz)) hT (by omega)]
        rw [List.append_assoc, JV.putL]
        congr 1
        simp only [List.length_append, List.length_cons, List.length_nil]
        omega
theorem hasName_no {acc : List JF} {nm : ByteArray} (h : ∀ f ∈ acc, lessB f.name nm = true) : hasName acc nm = false := by
  unfold hasName
  rw [List.any_eq_false]
  intro f hf hs
  have e : f.name = nm := by simpa using hs
  have := h f hf
  rw [e, lessB_irrefl] at this
  cases this
/-- An object's fields. -/
theorem sevF_back {s : ByteArray} {D : Nat} : ∀ (xs : List JF) (nm : ByteArray) (v : JV) (acc : List JF) (n p : Nat), (∀ f ∈ JF.mk nm v :: xs, Lib.validD f.name.data.toList = true ∧ f.value.isN ∧ f.value.deep ≤ D ∧ Back f.value) → Rising (acc ++ JF.mk nm v :: xs) →
    Has s p (quoted nm ++ (58 :: (v.put ++ (JV.putF 44 xs ++ [125])))) → s.size < p + n →
    sevF s 125 (fieldAt s (valF s D)) n p acc = .ok (acc ++ JF.mk nm v :: xs) (p + (quoted nm ++ (58 :: (v.put ++ (JV.putF 44 xs ++ [125])))).length)
  | xs, nm, v, acc, n, p, hy, hr, h, hn => by
    have hle := h.1
    obtain ⟨n, rfl⟩ : ∃ m, n = m + 1 := ⟨n - 1, by omega⟩
    obtain ⟨h0, h1, h2, h3⟩ := hy (.mk nm v) (.head _)
    simp only [JF.name, JF.value] at h0 h1 h2 h3
    have hR := h.right
    have hQ := h.left
    have hq0 : byteAt s p = 34 := by
      have := hQ
      unfold quoted at this
      exact this.head.1
    have htx := text_back h0 hQ
    have hcol : byteAt s (p + (quoted nm).length) = 58 := hR.head.1
    have hV := hR.tail
    obtain ⟨c2, q2, e2, ho⟩ := put_first v h1
    have hf : isGap (byteAt s (p + (quoted nm).length + 1)) = false := by
      have := hV.left
      rw [e2] at this
      rw [this.head.1]
      exact opens_gap ho
    have hnext : ∃ c q, JV.putF 44 xs ++ [125] = c :: q ∧ ((xs = [] ∧ c = 125) ∨ (xs ≠ [] ∧ c = 44)) := by
      cases xs with
      | nil => rw [JV.putF]; exact ⟨125, [], rfl, .inl ⟨rfl, rfl⟩⟩
      | cons y ys => obtain ⟨n2, v2⟩ := y; rw [JV.putF]; exact ⟨44, _, rfl, .inr ⟨by simp, rfl⟩⟩
    obtain ⟨c, q, ec, hc⟩ := hnext
    have hE := hV.right
    rw [ec] at hE
    have hb := hE.head.1
    have hnum : isNum (byteAt s (p + (quoted nm).length + 1 + v.put.length)) = false ∧ isGap (byteAt s (p + (quoted nm).length + 1 + v.put.length)) = false := by
      rw [hb]
      rcases hc with ⟨_, rfl⟩ | ⟨_, rfl⟩ <;> exact ⟨rfl, rfl⟩
    have hv := h3 D s _ h2 hV.left hnum.1
    have hlt : ∀ f ∈ acc, lessB f.name nm = true := fun f hf => (List.pairwise_append.1 hr).2.2 f hf (.mk nm v) (.head _)
    have hi : fieldAt s (valF s D) p acc = .ok (acc ++ [JF.mk nm v]) (p + (quoted nm).length + 1 + v.put.length) := by
      unfold fieldAt
      rw [if_pos hq0, htx]
      simp only
      rw [show (⟨nm.data.toList.toArray⟩ : ByteArray) = nm by simp, hasName_no hlt, gap_stay (by rw [hcol]; rfl), if_neg (by simp), if_pos hcol, gap_stay hf, hv]
      rfl
    rw [sevF, hi]
    simp only
    rw [gap_stay hnum.2]
    rcases hc with ⟨rfl, rfl⟩ | ⟨hne, rfl⟩
    · have hb2 : byteAt s (p + (quoted nm).length + 1 + v.put.length) = 125 := hb
      rw [if_neg (by omega), if_pos hb2]
      rw [JV.putF]
      congr 1
      simp only [List.nil_append, List.length_append, List.length_cons, List.length_nil]
      omega
    · have hb2 : byteAt s (p + (quoted nm).length + 1 + v.put.length) = 44 := hb
      rw [if_pos hb2]
      cases xs with
      | nil => exact absurd rfl hne
      | cons y ys =>
        obtain ⟨n2, v2⟩ := y
        rw [JV.putF] at ec
        have eq : quoted n2 ++ (58 :: (v2.put ++ (JV.putF 44 ys ++ [125]))) = q := by
          simp only [List.cons_append] at ec
          injection ec with _ ec
          rw [← ec]
          simp
        have hT := hE.tail
        rw [← eq] at hT
        have hg : isGap (byteAt s (p + (quoted nm).length + 1 + v.put.length + 1)) = false := by
          rw [quoted_head hT.left]
          rfl
        rw [gap_stay hg, sevF_back ys n2 v2 (acc ++ [JF.mk nm v]) n _ (fun z hz => hy z (.tail _ hz)) (by rw [List.append_assoc]; exact hr) hT (by omega)]
        rw [List.append_assoc, JV.putF]
        congr 1
        simp only [List.length_append, List.length_cons, List.length_nil]
        omega
theorem deepL_mem : ∀ {l : List JV} {y : JV}, y ∈ l → y.deep ≤ JV.deepL l
  | x :: l, y, h => by
    rw [JV.deepL]
    rcases List.mem_cons.1 h with rfl | h
    · omega
    · have := deepL_mem h; omega
theorem deepF_mem : ∀ {l : List JF} {f : JF}, f ∈ l → f.value.deep ≤ JV.deepF l
  | .mk nm v :: l, f, h => by
    rw [JV.deepF]
    rcases List.mem_cons.1 h with rfl | h
    · simp only [JF.value]; omega
    · have := deepF_mem h; omega
theorem back_step (x : JV) (hx : x.isN) (hl : ∀ y ∈ x.list, Back y) (hf : ∀ f ∈ x.fields, Back f.value) : Back x := by
  intro D s i hD h he
  obtain ⟨k, t, n, d, e, tx, l, f⟩ := x
  simp only [JV.list, JV.fields] at hl hf
  rw [JV.isN] at hx
  rcases hx with ⟨rfl, rfl, rfl, rfl, rfl, rfl, rfl, rfl⟩ | ⟨rfl, rfl, rfl, rfl, rfl, rfl, rfl⟩ | ⟨rfl, rfl, hN, rfl, rfl, rfl⟩ | ⟨rfl, rfl, rfl, rfl, rfl, hv, rfl, rfl⟩ | ⟨rfl, rfl, rfl, rfl, rfl, rfl, hL, rfl⟩ | ⟨rfl, rfl, rfl, rfl, rfl, rfl, rfl, hF, hr⟩
  · obtain ⟨lst, obj, ev⟩ := valF_with s D i
    rw [ev]
    have hp : (JV.mk 0 false false ⟨#[]⟩ 0 ⟨#[]⟩ [] []).put = [110, 117, 108, 108] := by rw [JV.put]; rfl
    rw [hp] at h ⊢
    have hb : byteAt s i = 110 := h.head.1
    unfold valWith litAt
    rw [if_neg (by omega), if_neg (by omega), if_neg (by omega), if_neg (by omega), pre_yes h, if_pos rfl]
    rfl
  · obtain ⟨lst, obj, ev⟩ := valF_with s D i
    rw [ev]
    cases t with
    | true =>
      have hp : (JV.mk 1 true false ⟨#[]⟩ 0 ⟨#[]⟩ [] []).put = [116, 114, 117, 101] := by rw [JV.put]; rfl
      rw [hp] at h ⊢
      have hb : byteAt s i = 116 := h.head.1
      unfold valWith litAt
      rw [if_neg (by omega), if_neg (by omega), if_neg (by omega), if_neg (by omega), pre_no (by rw [hb]; decide), if_neg (by simp), pre_yes h, if_pos rfl]
      rfl
    | false =>
      have hp : (JV.mk 1 false false ⟨#[]⟩ 0 ⟨#[]⟩ [] []).put = [102, 97, 108, 115, 101] := by rw [JV.put]; rfl
      rw [hp] at h ⊢
      have hb : byteAt s i = 102 := h.head.1
      unfold valWith litAt
      rw [if_neg (by omega), if_neg (by omega), if_neg (by omega), if_neg (by omega), pre_no (by rw [hb]; decide), if_neg (by simp), pre_no (by rw [hb]; decide), if_neg (by simp), pre_yes h, if_pos rfl]
      rfl
  · obtain ⟨lst, obj, ev⟩ := valF_with s D i
    rw [ev]
    have hp : (JV.mk 2 false n d e ⟨#[]⟩ [] []).put = decText n d e := by rw [JV.put]; rfl
    rw [hp] at h he ⊢
    obtain ⟨c, q, ec, hc⟩ := text_first hN
    have hb : byteAt s i = c.toNat := by have := h; rw [ec] at this; exact this.head.1
    unfold valWith
    rw [if_neg (by omega), if_neg (by omega), if_neg (by omega), if_pos (by omega)]
    exact number_back hN h he
  · obtain ⟨lst, obj, ev⟩ := valF_with s D i
    rw [ev]
    have hp : (JV.mk 3 false false ⟨#[]⟩ 0 tx [] []).put = quoted tx := by rw [JV.put]; rfl
    rw [hp] at h he ⊢
    have hb : byteAt s i = 34 := by have := h; unfold quoted at this; exact this.head.1
    unfold valWith
    rw [if_neg (by omega), if_neg (by omega), if_pos hb]
    unfold textVal
    rw [text_back hv h]
  · have hd2 : (JV.mk 4 false false ⟨#[]⟩ 0 ⟨#[]⟩ l []).deep = 1 + JV.deepL l := by rw [JV.deep]; rfl
    rw [hd2] at hD
    obtain ⟨D, rfl⟩ : ∃ m, D = m + 1 := ⟨D - 1, by omega⟩
    rw [valF]
    have hp : (JV.mk 4 false false ⟨#[]⟩ 0 ⟨#[]⟩ l []).put = JV.putL 91 l ++ (if l.length = 0 then [91, 93] else [93]) := by rw [JV.put]; rfl
    rw [hp] at h he ⊢
    cases l with
    | nil =>
      rw [JV.putL] at h he ⊢
      have hb : byteAt s i = 91 := h.head.1
      have hb2 : byteAt s (i + 1) = 93 := h.tail.head.1
      unfold valWith
      rw [if_pos hb]
      unfold sevAt
      rw [gap_stay (by rw [hb2]; rfl), if_pos hb2]
      rfl
    | cons x xs =>
      rw [JV.putL, if_neg (by simp)] at h he ⊢
      rw [List.cons_append, List.append_assoc] at h he ⊢
      have hb : byteAt s i = 91 := h.head.1
      obtain ⟨c2, q2, e2, ho⟩ := put_first x (isNL_iff.1 hL x (.head _))
      have hb2 : byteAt s (i + 1) = c2.toNat := by have := h.tail.left; rw [e2] at this; exact this.head.1
      have hle := h.1
      unfold valWith
      rw [if_pos hb]
      unfold sevAt
      rw [gap_stay (by rw [hb2]; exact opens_gap ho), if_neg (by rw [hb2]; unfold opens at ho; omega)]
      rw [sevL_back xs x [] (s.size + 1) (i + 1) (fun y hy => ⟨isNL_iff.1 hL y hy, by have := deepL_mem hy; omega, hl y hy⟩) h.tail (by omega)]
      show PR.ok _ _ = PR.ok _ _
      congr 1
      simp only [List.length_cons]
      omega
  · have hd2 : (JV.mk 5 false false ⟨#[]⟩ 0 ⟨#[]⟩ [] f).deep = 1 + JV.deepF f := by rw [JV.deep]; rfl
    rw [hd2] at hD
    obtain ⟨D, rfl⟩ : ∃ m, D = m + 1 := ⟨D - 1, by omega⟩
    rw [valF]
    have hp : (JV.mk 5 false false ⟨#[]⟩ 0 ⟨#[]⟩ [] f).put = JV.putF 123 f ++ (if f.length = 0 then [123, 125] else [125]) := by rw [JV.put]; rfl
    rw [hp] at h he ⊢
    cases f with
    | nil =>
      rw [JV.putF] at h he ⊢
      have hb : byteAt s i = 123 := h.head.1
      have hb2 : byteAt s (i + 1) = 125 := h.tail.head.1
      unfold valWith
      rw [if_neg (by omega), if_pos hb]
      unfold sevAt
      rw [gap_stay (by rw [hb2]; rfl), if_pos hb2]
      rfl
    | cons x xs =>
      obtain ⟨nm, v⟩ := x
      rw [JV.putF, if_neg (by simp)] at h he ⊢
      rw [List.cons_append, List.append_assoc, List.cons_append, List.append_assoc] at h he ⊢
      have hb : byteAt s i = 123 := h.head.1
      have hb2 : byteAt s (i + 1) = 34 := by have := h.tail.left; unfold quoted at this; exact this.head.1
      have hle := h.1
      unfold valWith
      rw [if_neg (by omega), if_pos hb]
      unfold sevAt
      rw [gap_stay (by rw [hb2]; rfl), if_neg (by omega)]
      rw [sevF_back xs nm v [] (s.size + 1) (i + 1) (fun g hg => ⟨(isNF_iff.1 hF g hg).1, (isNF_iff.1 hF g hg).2, by have := deepF_mem hg; omega, hf g hg⟩) hr h.tail (by omega)]
      show PR.ok _ _ = PR.ok _ _
      congr 1
      simp only [List.length_cons]
      omega
theorem back_all : ∀ (n : Nat) (x : JV), x.wt ≤ n → x.isN → Back x
  | 0, .mk k t n d e s l f, h, _ => by rw [JV.wt] at h; omega
  | m + 1, .mk k t n d e s l f, h, hx => by
    rw [JV.wt] at h
    have hm : (∀ y ∈ l, y.isN) ∧ (∀ g ∈ f, g.value.isN) := by
      rw [JV.isN] at hx
      rcases hx with ⟨_, _, _, _, _, _, rfl, rfl⟩ | ⟨_, _, _, _, _, rfl, rfl⟩ | ⟨_, _, _, _, rfl, rfl⟩ | ⟨_, _, _, _, _, _, rfl, rfl⟩ | ⟨_, _, _, _, _, _, hL, rfl⟩ | ⟨_, _, _, _, _, _, rfl, hF, _⟩
      · exact ⟨(fun y h => nomatch h), (fun y h => nomatch h)⟩
      · exact ⟨(fun y h => nomatch h), (fun y h => nomatch h)⟩
      · exact ⟨(fun y h => nomatch h), (fun y h => nomatch h)⟩
      · exact ⟨(fun y h => nomatch h), (fun y h => nomatch h)⟩
      · exact ⟨isNL_iff.1 hL, (fun y h => nomatch h)⟩
      · exact ⟨(fun y h => nomatch h), fun g hg => (isNF_iff.1 hF g hg).2⟩
    exact back_step _ hx (fun y hy => back_all m y (by have := wt_memL hy; simp only [JV.list] at this; omega) (hm.1 y hy)) (fun g hg => back_all m _ (by have := wt_memF hg; simp only [JV.fields] at this; omega) (hm.2 g hg))
/-- **There and back.** -/
theorem back_any (x : JV) (hx : x.isN) : Back x := back_all _ x (Nat.le_refl _) hx
/-- What is told and nothing else is read as it. -/
theorem back_whole (x : JV) (hx : x.isN) {D : Nat} (hD : x.deep ≤ D) : valF ⟨x.put.toArray⟩ D 0 = .ok x x.put.length := by
  have hall : Has ⟨x.put.toArray⟩ 0 x.put := by have := Has.all ⟨x.put.toArray⟩; simpa using this
  have := back_any x hx D ⟨x.put.toArray⟩ 0 hD hall (by rw [byteAt_end (by rw [size_mk]; omega)]; rfl)
  rw [Nat.zero_add] at this
  exact this
end Go.Proofs.YtmfijfcikecglaaGreatDoor
end
section
set_option linter.unusedVariables false
set_option linter.unusedSimpArgs false
namespace Go.Proofs.YtmfijfcikecglaaGreatDoor
open Go Go.RowKit

theorem told_gap (x : JV) (hx : x.isN) : gapTo ⟨x.put.toArray⟩ 0 = 0 := by
  obtain ⟨c, q, hq, ho⟩ := put_first x hx
  apply gap_stay
  have hall : Has ⟨x.put.toArray⟩ 0 x.put := by have := Has.all ⟨x.put.toArray⟩; simpa using this
  have hb : byteAt ⟨x.put.toArray⟩ 0 = c.toNat := by
    rw [hq] at hall ⊢
    exact hall.head.1
  rw [hb]
  exact opens_gap ho
/-- Told, and no deeper than may be: read as it. -/
theorem parse_told (x : JV) (hx : x.isN) (hD : x.deep ≤ 64) : ∃ j, parseTo ⟨x.put.toArray⟩ = .ok x j := by
  have h := back_whole x hx hD
  have hsz : (⟨x.put.toArray⟩ : ByteArray).size = x.put.length := size_mk _
  refine ⟨x.put.length, ?_⟩
  unfold parseTo
  rw [told_gap x hx, h]
  show (if gapTo _ x.put.length < _ then _ else _) = _
  have hg : gapTo ⟨x.put.toArray⟩ x.put.length = x.put.length := gap_stay (by rw [byteAt_end (by rw [hsz]; omega)]; rfl)
  rw [hg, if_neg (by rw [hsz]; omega), norm_of_isN x hx]
/-- Told, and too deep: a fault. -/
theorem parse_too_deep (x : JV) (hx : x.isN) (hD : 64 < x.deep) : ∃ k e, parseTo ⟨x.put.toArray⟩ = .no k e := by
  unfold parseTo
  rw [told_gap x hx]
  cases hv : valF ⟨x.put.toArray⟩ 64 0 with
  | no k e => exact ⟨k, e, rfl⟩
  | ok y j =>
    exfalso
    have h1 := valF_le ⟨x.put.toArray⟩ 64 (x.deep - 64) 0 y j hv
    rw [show 64 + (x.deep - 64) = x.deep by omega, back_whole x hx (Nat.le_refl _)] at h1
    injection h1 with h1 h2
    subst h1
    have := valF_deep ⟨x.put.toArray⟩ 64 0 x j hv
    omega
end Go.Proofs.YtmfijfcikecglaaGreatDoor
end
section
set_option linter.unusedVariables false
set_option linter.unusedSimpArgs false
namespace Go.Proofs.YtmfijfcikecglaaGreatDoor
open Go Go.RowKit

/-- A row of blanks. -/
def Gaps (g : List UInt8) : Prop := ∀ c ∈ g, isGap c.toNat = true
mutual
/-- A value told, gaps within. -/
inductive Wide : JV → List UInt8 → Prop
  | one (x : JV) : x.kind ≠ 4 → x.kind ≠ 5 → Wide x x.put
  | list (k : Int) (t n : Bool) (d : ByteArray) (e : Int) (s : ByteArray) (l : List JV) (f : List JF) (q : List UInt8) : k = 4 → WideL l q → Wide (.mk k t n d e s l f) (91 :: q)
  | obj (k : Int) (t n : Bool) (d : ByteArray) (e : Int) (s : ByteArray) (l : List JV) (f : List JF) (q : List UInt8) : k = 5 → WideO f q → Wide (.mk k t n d e s l f) (123 :: q)
/-- What stands behind a list's bracket or comma. -/
inductive WideL : List JV → List UInt8 → Prop
  | nil (g : List UInt8) : Gaps g → WideL [] (g ++ [93])
  | cons (g : List UInt8) (x : JV) (xs : List JV) (q r : List UInt8) : Gaps g → Wide x q → RestL xs r → WideL (x :: xs) (g ++ (q ++ r))
/-- What stands behind an element. -/
inductive RestL : List JV → List UInt8 → Prop
  | nil (g : List UInt8) : Gaps g → RestL [] (g ++ [93])
  | cons (g : List UInt8) (x : JV) (xs : List JV) (q : List UInt8) : Gaps g → WideL (x :: xs) q → RestL (x :: xs) (g ++ 44 :: q)
inductive WideO : List JF → List UInt8 → Prop
  | nil (g : List UInt8) : Gaps g → WideO [] (g ++ [125])
  | cons (g : List UInt8) (nm : ByteArray) (v : JV) (fs : List JF) (g1 g2 q r : List UInt8) : Gaps g → Gaps g1 → Gaps g2 → Wide v q → RestO fs r → WideO (.mk nm v :: fs) (g ++ (quoted nm ++ (g1 ++ 58 :: (g2 ++ (q ++ r)))))
inductive RestO : List JF → List UInt8 → Prop
  | nil (g : List UInt8) : Gaps g → RestO [] (g ++ [125])
  | cons (g : List UInt8) (f : JF) (fs : List JF) (q : List UInt8) : Gaps g → WideO (f :: fs) q → RestO (f :: fs) (g ++ 44 :: q)
end

theorem gap_run {s : ByteArray} : ∀ (g : List UInt8) (p : Nat) (c : UInt8) (r : List UInt8), Gaps g → Has s p (g ++ c :: r) → isGap c.toNat = false → gapTo s p = p + g.length
  | [], p, c, r, _, h, hc => by
    rw [gap_stay (by rw [(show Has s p (c :: r) from h).head.1]; exact hc)]; rfl
  | b :: g, p, c, r, hg, h, hc => by
    have h' : Has s p (b :: (g ++ c :: r)) := h
    rw [gapTo, if_pos ⟨h'.head.2, by rw [h'.head.1]; exact hg b (.head _)⟩, gap_run g (p + 1) c r (fun x hx => hg x (.tail _ hx)) h'.tail hc, List.length_cons]
    omega
theorem gap_num {n : Nat} (h : isGap n = true) : isNum n = false := by
  unfold isGap at h
  simp only [Bool.or_eq_true, beq_iff_eq] at h
  rcases h with ((rfl | rfl) | rfl) | rfl <;> rfl
theorem gaps_first (g : List UInt8) (hg : Gaps g) (c : UInt8) (r : List UInt8) (hc : isNum c.toNat = false) : ∃ b q, g ++ c :: r = b :: q ∧ isNum b.toNat = false := by
  cases g with
  | nil => exact ⟨c, r, rfl, hc⟩
  | cons b g => exact ⟨b, _, rfl, gap_num (hg b (.head _))⟩
theorem restL_first {xs : List JV} {r : List UInt8} (h : RestL xs r) : ∃ b q, r = b :: q ∧ isNum b.toNat = false := by
  cases h with
  | nil g hg => exact gaps_first g hg 93 [] rfl
  | cons g x xs q hg _ => exact gaps_first g hg 44 q rfl
theorem restO_first {xs : List JF} {r : List UInt8} (h : RestO xs r) : ∃ b q, r = b :: q ∧ isNum b.toNat = false := by
  cases h with
  | nil g hg => exact gaps_first g hg 125 [] rfl
  | cons g x xs q hg _ => exact gaps_first g hg 44 q rfl
theorem wide_first {x : JV} {q : List UInt8} (hx : x.isN) (h : Wide x q) : ∃ c p, q = c :: p ∧ opens c.toNat := by
  cases h with
  | one _ _ _ => exact put_first x hx
  | list _ _ _ _ _ _ _ _ q _ _ => exact ⟨91, q, rfl, by unfold opens; decide⟩
  | obj _ _ _ _ _ _ _ _ q _ _ => exact ⟨123, q, rfl, by unfold opens; decide⟩

/-- A value is read back, wherever and however wide it is told. -/
def WBack (x : JV) : Prop := ∀ (D : Nat) (s : ByteArray) (i : Nat) (q : List UInt8), Wide x q → x.deep ≤ D → Has s i q → isNum (byteAt s (i + q.length)) = false → valF s D i = .ok x (i + q.length)

theorem sevL_wide {s : ByteArray} {D : Nat} : ∀ (xs : List JV) (x : JV) (acc : List JV) (n p : Nat) (q r : List UInt8), (∀ y ∈ x :: xs, y.isN ∧ y.deep ≤ D ∧ WBack y) → Wide x q → RestL xs r → Has s p (q ++ r) → s.size < p + n →
    sevF s 93 (itemL (valF s D)) n p acc = .ok (acc ++ x :: xs) (p + (q ++ r).length)
  | xs, x, acc, n, p, q, r, hy, hW, hr, h, hn => by
    have hle := h.1
    obtain ⟨n, rfl⟩ : ∃ m, n = m + 1 := ⟨n - 1, by omega⟩
    obtain ⟨h1, h2, h3⟩ := hy x (.head _)
    have hR := h.right
    obtain ⟨b, z, eb, hb⟩ := restL_first hr
    have hnum : isNum (byteAt s (p + q.length)) = false := by
      have := hR
      rw [eb] at this
      rw [this.head.1]; exact hb
    have hi : itemL (valF s D) p acc = .ok (acc ++ [x]) (p + q.length) := by
      unfold itemL
      rw [h3 D s p q hW h2 h.left hnum]
    rw [sevF, hi]
    simp only
    cases hr with
    | nil g hg =>
      rw [gap_run g _ 93 [] hg hR rfl]
      have hb2 : byteAt s (p + q.length + g.length) = 93 := hR.right.head.1
      rw [if_neg (by omega), if_pos hb2]
      simp only [List.length_append, List.length_cons, List.length_nil]
      congr 1
      omega
    | cons g y ys q2 hg hL =>
      rw [gap_run g _ 44 q2 hg hR rfl]
      have hb2 : byteAt s (p + q.length + g.length) = 44 := hR.right.head.1
      rw [if_pos hb2]
      have hT := hR.right.tail
      cases hL with
      | cons g' y ys qy ry hg' hWy hry =>
        obtain ⟨c2, q3, e3, ho⟩ := wide_first (hy y (.tail _ (.head _))).1 hWy
        rw [gap_run g' _ c2 (q3 ++ ry) hg' (by have := hT; rw [e3] at this; exact this) (opens_gap ho)]
        rw [sevL_wide ys y (acc ++ [x]) n _ qy ry (fun z hz => hy z (.tail _ hz)) hWy hry hT.right (by omega)]
        rw [List.append_assoc]
        simp only [List.length_append, List.length_cons, List.length_nil, List.cons_append, List.nil_append]
        congr 1
        omega
theorem sevO_wide {s : ByteArray} {D : Nat} : ∀ (xs : List JF) (nm : ByteArray) (v : JV) (acc : List JF) (n p : Nat) (g1 g2 q r : List UInt8), (∀ f ∈ JF.mk nm v :: xs, Lib.validD f.name.data.toList = true ∧ f.value.isN ∧ f.value.deep ≤ D ∧ WBack f.value) → Rising (acc ++ JF.mk nm v :: xs) →
    Gaps g1 → Gaps g2 → Wide v q → RestO xs r → Has s p (quoted nm ++ (g1 ++ 58 :: (g2 ++ (q ++ r)))) → s.size < p + n →
    sevF s 125 (fieldAt s (valF s D)) n p acc = .ok (acc ++ JF.mk nm v :: xs) (p + (quoted nm ++ (g1 ++ 58 :: (g2 ++ (q ++ r)))).length)
  | xs, nm, v, acc, n, p, g1, g2, q, r, hy, hri, hg1, hg2, hW, hr, h, hn => by
    have hle := h.1
    obtain ⟨n, rfl⟩ : ∃ m, n = m + 1 := ⟨n - 1, by omega⟩
    obtain ⟨h0, h1, h2, h3⟩ := hy (.mk nm v) (.head _)
    simp only [JF.name, JF.value] at h0 h1 h2 h3
    have hR := h.right
    have hQ := h.left
    have hq0 : byteAt s p = 34 := quoted_head hQ
    have htx := text_back h0 hQ
    have hc1 := gap_run g1 _ 58 _ hg1 hR rfl
    have hcol : byteAt s (p + (quoted nm).length + g1.length) = 58 := hR.right.head.1
    have hV := hR.right.tail
    obtain ⟨c2, q2, e2, ho⟩ := wide_first h1 hW
    have hc2 := gap_run g2 _ c2 (q2 ++ r) hg2 (by have := hV; rw [e2] at this; exact this) (opens_gap ho)
    have hE := hV.right
    have hR2 := hE.right
    obtain ⟨b, z, eb, hb⟩ := restO_first hr
    have hnum : isNum (byteAt s (p + (quoted nm).length + g1.length + 1 + g2.length + q.length)) = false := by
      have := hR2
      rw [eb] at this
      rw [this.head.1]; exact hb
    have hv := h3 D s _ q hW h2 hE.left hnum
    have hlt : ∀ f ∈ acc, lessB f.name nm = true := fun f hf => (List.pairwise_append.1 hri).2.2 f hf (.mk nm v) (.head _)
    have hi : fieldAt s (valF s D) p acc = .ok (acc ++ [JF.mk nm v]) (p + (quoted nm).length + g1.length + 1 + g2.length + q.length) := by
      unfold fieldAt
      rw [if_pos hq0, htx]
      simp only
      rw [show (⟨nm.data.toList.toArray⟩ : ByteArray) = nm by simp, hasName_no hlt, hc1, if_neg (by simp), if_pos hcol, hc2, hv]
      rfl
    rw [sevF, hi]
    simp only
    cases hr with
    | nil g hg =>
      rw [gap_run g _ 125 [] hg hR2 rfl]
      have hb2 : byteAt s (p + (quoted nm).length + g1.length + 1 + g2.length + q.length + g.length) = 125 := hR2.right.head.1
      rw [if_neg (by omega), if_pos hb2]
      simp only [List.length_append, List.length_cons, List.length_nil]
      congr 1
      omega
    | cons g y ys q3 hg hL =>
      rw [gap_run g _ 44 q3 hg hR2 rfl]
      have hb2 : byteAt s (p + (quoted nm).length + g1.length + 1 + g2.length + q.length + g.length) = 44 := hR2.right.head.1
      rw [if_pos hb2]
      have hT := hR2.right.tail
      cases hL with
      | cons g' nm2 v2 ys g1' g2' qy ry hg' hg1' hg2' hWy hry =>
        have hq : ∃ z, quoted nm2 = 34 :: z := ⟨_, rfl⟩
        obtain ⟨z2, ez⟩ := hq
        rw [gap_run g' _ 34 (z2 ++ (g1' ++ 58 :: (g2' ++ (qy ++ ry)))) hg' (by have := hT; rw [ez] at this; exact this) rfl]
        rw [sevO_wide ys nm2 v2 (acc ++ [JF.mk nm v]) n _ g1' g2' qy ry (fun z hz => hy z (.tail _ hz)) (by rw [List.append_assoc]; exact hri) hg1' hg2' hWy hry hT.right (by omega)]
        rw [List.append_assoc]
        simp only [List.length_append, List.length_cons, List.length_nil, List.cons_append, List.nil_append]
        congr 1
        omega
theorem wback_step (x : JV) (hx : x.isN) (hl : ∀ y ∈ x.list, WBack y) (hf : ∀ f ∈ x.fields, WBack f.value) : WBack x := by
  intro D s i q hW hD h he
  cases hW with
  | one _ h4 h5 => exact back_any x hx D s i hD h he
  | list k t n d e tx l f q hk hL =>
    subst hk
    simp only [JV.list, JV.fields] at hl hf
    rw [JV.isN] at hx
    have hx' : t = false ∧ n = false ∧ d = ⟨#[]⟩ ∧ e = 0 ∧ tx = ⟨#[]⟩ ∧ JV.isNL l ∧ f = [] := by
      rcases hx with ⟨h, _⟩ | ⟨h, _⟩ | ⟨h, _⟩ | ⟨h, _⟩ | ⟨_, h⟩ | ⟨h, _⟩
      · exact absurd h (by decide)
      · exact absurd h (by decide)
      · exact absurd h (by decide)
      · exact absurd h (by decide)
      · exact h
      · exact absurd h (by decide)
    obtain ⟨rfl, rfl, rfl, rfl, rfl, hN, rfl⟩ := hx'
    have hd2 : (JV.mk 4 false false ⟨#[]⟩ 0 ⟨#[]⟩ l []).deep = 1 + JV.deepL l := by rw [JV.deep]; rfl
    rw [hd2] at hD
    obtain ⟨D, rfl⟩ : ∃ m, D = m + 1 := ⟨D - 1, by omega⟩
    rw [valF]
    have hb : byteAt s i = 91 := h.head.1
    have hle := h.1
    unfold valWith
    rw [if_pos hb]
    unfold sevAt
    have hT := h.tail
    cases hL with
    | nil g hg =>
      rw [gap_run g _ 93 [] hg hT rfl]
      have hb2 : byteAt s (i + 1 + g.length) = 93 := hT.right.head.1
      rw [if_pos hb2]
      show PR.ok _ _ = PR.ok _ _
      simp only [List.length_append, List.length_cons, List.length_nil]
      congr 1
      omega
    | cons g x xs q r hg hWx hr =>
      obtain ⟨c2, q2, e2, ho⟩ := wide_first (isNL_iff.1 hN x (.head _)) hWx
      have hgr := gap_run g _ c2 (q2 ++ r) hg (by have := hT; rw [e2] at this; exact this) (opens_gap ho)
      have hb2 : byteAt s (i + 1 + g.length) = c2.toNat := by have := hT.right.left; rw [e2] at this; exact this.head.1
      rw [hgr, if_neg (by rw [hb2]; unfold opens at ho; omega)]
      rw [sevL_wide xs x [] (s.size + 1) (i + 1 + g.length) q r (fun y hy => ⟨isNL_iff.1 hN y hy, by have := deepL_mem hy; omega, hl y hy⟩) hWx hr hT.right (by omega)]
      show PR.ok _ _ = PR.ok _ _
      simp only [List.length_append, List.length_cons]
      congr 1
      omega
  | obj k t n d e tx l f q hk hO =>
    subst hk
    simp only [JV.list, JV.fields] at hl hf
    rw [JV.isN] at hx
    have hx' : t = false ∧ n = false ∧ d = ⟨#[]⟩ ∧ e = 0 ∧ tx = ⟨#[]⟩ ∧ l = [] ∧ JV.isNF f ∧ Rising f := by
      rcases hx with ⟨h, _⟩ | ⟨h, _⟩ | ⟨h, _⟩ | ⟨h, _⟩ | ⟨h, _⟩ | ⟨_, h⟩
      · exact absurd h (by decide)
      · exact absurd h (by decide)
      · exact absurd h (by decide)
      · exact absurd h (by decide)
      · exact absurd h (by decide)
      · exact h
    obtain ⟨rfl, rfl, rfl, rfl, rfl, rfl, hF, hr⟩ := hx'
    have hd2 : (JV.mk 5 false false ⟨#[]⟩ 0 ⟨#[]⟩ [] f).deep = 1 + JV.deepF f := by rw [JV.deep]; rfl
    rw [hd2] at hD
    obtain ⟨D, rfl⟩ : ∃ m, D = m + 1 := ⟨D - 1, by omega⟩
    rw [valF]
    have hb : byteAt s i = 123 := h.head.1
    have hle := h.1
    unfold valWith
    rw [if_neg (by omega), if_pos hb]
    unfold sevAt
    have hT := h.tail
    cases hO with
    | nil g hg =>
      rw [gap_run g _ 125 [] hg hT rfl]
      have hb2 : byteAt s (i + 1 + g.length) = 125 := hT.right.head.1
      rw [if_pos hb2]
      show PR.ok _ _ = PR.ok _ _
      simp only [List.length_append, List.length_cons, List.length_nil]
      congr 1
      omega
    | cons g nm v fs g1 g2 q r hg hg1 hg2 hWv hRO =>
      obtain ⟨z2, ez⟩ : ∃ z, quoted nm = 34 :: z := ⟨_, rfl⟩
      have hgr := gap_run g _ 34 (z2 ++ (g1 ++ 58 :: (g2 ++ (q ++ r)))) hg (by have := hT; rw [ez] at this; exact this) rfl
      have hb2 : byteAt s (i + 1 + g.length) = 34 := quoted_head hT.right.left
      rw [hgr, if_neg (by omega)]
      rw [sevO_wide fs nm v [] (s.size + 1) (i + 1 + g.length) g1 g2 q r (fun f' hf' => ⟨(isNF_iff.1 hF f' hf').1, (isNF_iff.1 hF f' hf').2, by have := deepF_mem hf'; omega, hf f' hf'⟩) hr hg1 hg2 hWv hRO hT.right (by omega)]
      show PR.ok _ _ = PR.ok _ _
      simp only [List.length_append, List.length_cons]
      congr 1
      omega
theorem wback_all : ∀ (n : Nat) (x : JV), x.wt ≤ n → x.isN → WBack x
  | 0, .mk k t n d e s l f, h, _ => by rw [JV.wt] at h; omega
  | m + 1, .mk k t n d e s l f, h, hx => by
    rw [JV.wt] at h
    have hm : (∀ y ∈ l, y.isN) ∧ (∀ g ∈ f, g.value.isN) := by
      rw [JV.isN] at hx
      rcases hx with ⟨_, _, _, _, _, _, rfl, rfl⟩ | ⟨_, _, _, _, _, rfl, rfl⟩ | ⟨_, _, _, _, rfl, rfl⟩ | ⟨_, _, _, _, _, _, rfl, rfl⟩ | ⟨_, _, _, _, _, _, hL, rfl⟩ | ⟨_, _, _, _, _, _, rfl, hF, _⟩
      · exact ⟨(fun y h => nomatch h), (fun y h => nomatch h)⟩
      · exact ⟨(fun y h => nomatch h), (fun y h => nomatch h)⟩
      · exact ⟨(fun y h => nomatch h), (fun y h => nomatch h)⟩
      · exact ⟨(fun y h => nomatch h), (fun y h => nomatch h)⟩
      · exact ⟨isNL_iff.1 hL, (fun y h => nomatch h)⟩
      · exact ⟨(fun y h => nomatch h), fun g hg => (isNF_iff.1 hF g hg).2⟩
    exact wback_step _ hx (fun y hy => wback_all m y (by have := wt_memL hy; simp only [JV.list] at this; omega) (hm.1 y hy)) (fun g hg => wback_all m _ (by have := wt_memF hg; simp only [JV.fields] at this; omega) (hm.2 g hg))
theorem wback_any (x : JV) (hx : x.isN) : WBack x := wback_all _ x (Nat.le_refl _) hx

/-! ### the whole text -/
theorem gap_tail {s : ByteArray} : ∀ (g : List UInt8) (p : Nat), Gaps g → Has s p g → p + g.length = s.size → gapTo s p = s.size
  | [], p, _, _, e => by
    rw [gap_stay (by rw [byteAt_end (by simpa using Nat.le_of_eq e.symm)]; rfl)]; simpa using e
  | b :: g, p, hg, h, e => by
    rw [gapTo, if_pos ⟨h.head.2, by rw [h.head.1]; exact hg b (.head _)⟩]
    exact gap_tail g (p + 1) (fun x hx => hg x (.tail _ hx)) h.tail (by rw [List.length_cons] at e; omega)
theorem wide_whole (x : JV) (hx : x.isN) {g q g' : List UInt8} (hg : Gaps g) (hq : Wide x q) (hg' : Gaps g') {D : Nat} (hD : x.deep ≤ D) :
    gapTo ⟨(g ++ (q ++ g')).toArray⟩ 0 = g.length ∧ valF ⟨(g ++ (q ++ g')).toArray⟩ D g.length = .ok x (g.length + q.length) ∧ gapTo ⟨(g ++ (q ++ g')).toArray⟩ (g.length + q.length) = (⟨(g ++ (q ++ g')).toArray⟩ : ByteArray).size := by
  have hall : Has ⟨(g ++ (q ++ g')).toArray⟩ 0 (g ++ (q ++ g')) := by have := Has.all ⟨(g ++ (q ++ g')).toArray⟩; simpa using this
  have hsz : (⟨(g ++ (q ++ g')).toArray⟩ : ByteArray).size = (g ++ (q ++ g')).length := size_mk _
  have hsz2 : (g ++ (q ++ g')).length = g.length + q.length + g'.length := by simp only [List.length_append]; omega
  obtain ⟨c, p, rfl, ho⟩ := wide_first hx hq
  have h1 := gap_run g 0 c (p ++ g') hg hall (opens_gap ho)
  rw [Nat.zero_add] at h1
  have hR := hall.right
  rw [Nat.zero_add] at hR
  have hR2 := hR.right
  refine ⟨h1, ?_, gap_tail g' _ hg' hR2 (by rw [hsz, hsz2])⟩
  refine wback_any x hx D _ _ _ hq hD hR.left ?_
  cases g' with
  | nil => rw [byteAt_end (by rw [hsz, hsz2]; simp)]; rfl
  | cons b g' => rw [hR2.head.1]; exact gap_num (hg' b (.head _))
theorem parse_wide (x : JV) (hx : x.isN) {g q g' : List UInt8} (hg : Gaps g) (hq : Wide x q) (hg' : Gaps g') (hD : x.deep ≤ 64) : ∃ j, parseTo ⟨(g ++ (q ++ g')).toArray⟩ = .ok x j := by
  obtain ⟨h1, h2, h3⟩ := wide_whole x hx hg hq hg' hD
  refine ⟨g.length + q.length, ?_⟩
  unfold parseTo
  rw [h1, h2]
  show (if gapTo _ (g.length + q.length) < _ then _ else _) = _
  rw [h3, if_neg (by omega), norm_of_isN x hx]
theorem parse_wide_deep (x : JV) (hx : x.isN) {g q g' : List UInt8} (hg : Gaps g) (hq : Wide x q) (hg' : Gaps g') (hD : 64 < x.deep) : ∃ k e, parseTo ⟨(g ++ (q ++ g')).toArray⟩ = .no k e := by
  obtain ⟨h1, h2, h3⟩ := wide_whole x hx hg hq hg' (Nat.le_refl x.deep)
  unfold parseTo
  rw [h1]
  cases hv : valF ⟨(g ++ (q ++ g')).toArray⟩ 64 g.length with
  | no k e => exact ⟨k, e, rfl⟩
  | ok y j =>
    exfalso
    have h4 := valF_le _ 64 (x.deep - 64) _ y j hv
    rw [show 64 + (x.deep - 64) = x.deep by omega, h2] at h4
    injection h4 with h5 h6
    subst h5
    have := valF_deep _ 64 _ x j hv
    omega
end Go.Proofs.YtmfijfcikecglaaGreatDoor
end
