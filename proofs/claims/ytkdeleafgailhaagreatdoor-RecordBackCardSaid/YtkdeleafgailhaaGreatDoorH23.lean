/- There and back, plainly: the one form of values. The one form is no deeper; reading is one whatever the depth allowed: plain. A reading stays the same where more brackets are allowed: plain. There and back, plainly: **a value in its one form, told, is read as it**; so two that are told alike are one. What is told of a value in its one form: read as it, or at fault where it is too deep: plain. Records, plainly: outcomes and events; what is told is read again, in one form alone. Records, plainly: an event that is told is read again, and no beginning of it, and nothing longer; what is read is told as just these bytes. -/
import Derived.Test.YtkdeleafgailhaaGreatDoorH22
import Derived.Test.YtkdeleafgailhaaGreatDoorH19
import Derived.Test.YtkdeleafgailhaaGreatDoorH20
import Derived.Test.YtkdeleafgailhaaGreatDoorH21
section
set_option linter.unusedVariables false
set_option linter.unusedSimpArgs false
namespace Go.Proofs.YtkdeleafgailhaaGreatDoor
open Go Go.RowKit

mutual
/-- A value in its one form. -/
def JV.isN : JV → Prop
  | .mk k t n d e s l f =>
    (k = 0 ∧ t = false ∧ n = false ∧ d = ⟨#[]⟩ ∧ e = 0 ∧ s = ⟨#[]⟩ ∧ l = [] ∧ f = []) ∨
    (k = 1 ∧ n = false ∧ d = ⟨#[]⟩ ∧ e = 0 ∧ s = ⟨#[]⟩ ∧ l = [] ∧ f = []) ∨
    (k = 2 ∧ t = false ∧ NumN n d e ∧ s = ⟨#[]⟩ ∧ l = [] ∧ f = []) ∨
    (k = 3 ∧ t = false ∧ n = false ∧ d = ⟨#[]⟩ ∧ e = 0 ∧ Lib.validD s.data.toList = true ∧ l = [] ∧ f = []) ∨
    (k = 4 ∧ t = false ∧ n = false ∧ d = ⟨#[]⟩ ∧ e = 0 ∧ s = ⟨#[]⟩ ∧ JV.isNL l ∧ f = []) ∨
    (k = 5 ∧ t = false ∧ n = false ∧ d = ⟨#[]⟩ ∧ e = 0 ∧ s = ⟨#[]⟩ ∧ l = [] ∧ JV.isNF f ∧ Rising f)
def JV.isNL : List JV → Prop
  | [] => True
  | x :: xs => x.isN ∧ JV.isNL xs
def JV.isNF : List JF → Prop
  | [] => True
  | .mk nm v :: xs => (Lib.validD nm.data.toList = true ∧ v.isN) ∧ JV.isNF xs
end
theorem isNL_iff : ∀ {l : List JV}, JV.isNL l ↔ ∀ x ∈ l, x.isN
  | [] => by rw [JV.isNL]; simp
  | x :: l => by rw [JV.isNL, isNL_iff (l := l)]; simp
theorem isNF_iff : ∀ {l : List JF}, JV.isNF l ↔ ∀ f ∈ l, Lib.validD f.name.data.toList = true ∧ f.value.isN
  | [] => by rw [JV.isNF]; simp
  | .mk nm v :: l => by rw [JV.isNF, isNF_iff (l := l)]; simp [JF.name, JF.value]
theorem mem_insF {out : List JF} {nm : ByteArray} {v : JV} {f : JF} (h : f ∈ insF out nm v) : f ∈ out ∨ f = .mk nm v := by
  unfold insF at h
  split at h
  · exact .inl h
  · rcases List.mem_append.1 h with h | h
    · exact .inl ((List.takeWhile_sublist _).subset h)
    · rcases List.mem_cons.1 h with h | h
      · exact .inr h
      · exact .inl ((List.dropWhile_sublist _).subset h)
mutual
theorem norm_isN : ∀ (x : JV), x.norm.isN
  | .mk k t n d e s l f => by
    rw [JV.norm]
    split
    · rw [JV.isN]; exact .inr (.inl ⟨rfl, rfl, rfl, rfl, rfl, rfl, rfl⟩)
    · split
      · rw [JV.isN]; exact .inr (.inr (.inl ⟨rfl, rfl, numN_form n d e, rfl, rfl, rfl⟩))
      · split
        · rw [JV.isN]; exact .inr (.inr (.inr (.inl ⟨rfl, rfl, rfl, rfl, rfl, clean_valid s, rfl, rfl⟩)))
        · split
          · rw [JV.isN]; exact .inr (.inr (.inr (.inr (.inl ⟨rfl, rfl, rfl, rfl, rfl, rfl, normL_isN l, rfl⟩))))
          · split
            · rw [JV.isN]; exact .inr (.inr (.inr (.inr (.inr ⟨rfl, rfl, rfl, rfl, rfl, rfl, rfl, normF_isN f [] (by rw [JV.isNF]; trivial), rising_normF f [] rising_nil⟩))))
            · unfold JV.nul; rw [JV.isN]; exact .inl ⟨rfl, rfl, rfl, rfl, rfl, rfl, rfl, rfl⟩
theorem normL_isN : ∀ (l : List JV), JV.isNL (JV.normL l)
  | [] => by rw [JV.normL, JV.isNL]; trivial
  | x :: l => by rw [JV.normL, JV.isNL]; exact ⟨norm_isN x, normL_isN l⟩
theorem normF_isN : ∀ (l : List JF) (out : List JF), JV.isNF out → JV.isNF (JV.normF l out)
  | [], out, h => by rw [JV.normF]; exact h
  | .mk nm v :: l, out, h => by
    rw [JV.normF]
    refine normF_isN l _ (isNF_iff.2 fun f hf => ?_)
    rcases mem_insF hf with hf | rfl
    · exact isNF_iff.1 h f hf
    · exact ⟨clean_valid nm, norm_isN v⟩
end
theorem while_all {α : Type} (p : α → Bool) : ∀ (l : List α), (∀ x ∈ l, p x = true) → l.takeWhile p = l ∧ l.dropWhile p = []
  | [], _ => ⟨rfl, rfl⟩
  | a :: l, h => by
    obtain ⟨h1, h2⟩ := while_all p l (fun x hx => h x (.tail _ hx))
    have ha := h a (.head _)
    rw [List.takeWhile_cons, List.dropWhile_cons, ha, h2]
    simp [h1]
/-- A name greater than all goes to the end. -/
theorem insF_end {out : List JF} {nm : ByteArray} {v : JV} (h : ∀ f ∈ out, lessB f.name nm = true) : insF out nm v = out ++ [.mk nm v] := by
  unfold insF
  have h1 : out.any (fun f => sameB f.name nm) = false := by
    rw [List.any_eq_false]
    intro f hf hs
    have e := sameB_iff.1 hs
    have := h f hf
    rw [e, lessB_irrefl] at this
    cases this
  obtain ⟨h2, h3⟩ := while_all (fun f : JF => lessB f.name nm) out h
  rw [h1, h2, h3]
  rfl
mutual
/-- The one form's one form is itself. -/
theorem norm_of_isN : ∀ (x : JV), x.isN → x.norm = x
  | .mk k t n d e s l f, h => by
    rw [JV.isN] at h
    rcases h with ⟨rfl, rfl, rfl, rfl, rfl, rfl, rfl, rfl⟩ | ⟨rfl, rfl, rfl, rfl, rfl, rfl, rfl⟩ | ⟨rfl, rfl, hN, rfl, rfl, rfl⟩ | ⟨rfl, rfl, rfl, rfl, rfl, hv, rfl, rfl⟩ | ⟨rfl, rfl, rfl, rfl, rfl, rfl, hl, rfl⟩ | ⟨rfl, rfl, rfl, rfl, rfl, rfl, rfl, hf, hr⟩
    · rw [JV.norm]; rfl
    · rw [JV.norm]; rfl
    · rw [JV.norm]; unfold decNorm; rw [form_numN hN]; rfl
    · rw [JV.norm, clean_of_valid hv]; rfl
    · rw [JV.norm, normL_of_isN l hl]; rfl
    · rw [JV.norm, normF_of_isN f [] hf (by simpa using hr)]; rfl
theorem normL_of_isN : ∀ (l : List JV), JV.isNL l → JV.normL l = l
  | [], _ => by rw [JV.normL]
  | x :: l, h => by
    rw [JV.isNL] at h
    rw [JV.normL, norm_of_isN x h.1, normL_of_isN l h.2]
theorem normF_of_isN : ∀ (l : List JF) (out : List JF), JV.isNF l → Rising (out ++ l) → JV.normF l out = out ++ l
  | [], out, _, _ => by rw [JV.normF, List.append_nil]
  | .mk nm v :: l, out, h, hr => by
    rw [JV.isNF] at h
    rw [JV.normF, clean_of_valid h.1.1, norm_of_isN v h.1.2, insF_end (fun f hf => ?_), normF_of_isN l _ h.2 (by rw [List.append_assoc]; exact hr), List.append_assoc]
    · rfl
    · exact (List.pairwise_append.1 hr).2.2 f hf (.mk nm v) (.head _)
end
theorem norm_norm (x : JV) : x.norm.norm = x.norm := norm_of_isN _ (norm_isN x)

/-! ### words and gaps -/
theorem Has.take {s : ByteArray} {j : Nat} {q : List UInt8} (h : Has s j q) : (s.data.toList.drop j).take q.length = q := by
  have h2 := Has.part s j q.length h.1
  apply List.ext_getElem?
  intro k
  by_cases hk : k < q.length
  · have hl : k < ((s.data.toList.drop j).take q.length).length := by have h3 := h.1; have h5 : s.data.toList.length = s.size := Array.length_toList; rw [List.length_take, List.length_drop, h5]; omega
    have a := h2.2 k _ (List.getElem?_eq_getElem hl)
    have b := h.2 k _ (List.getElem?_eq_getElem hk)
    rw [List.getElem?_eq_getElem hl, List.getElem?_eq_getElem hk]
    congr 1
    exact UInt8.toNat_inj.1 (a.symm.trans b)
  · rw [List.getElem?_eq_none (by rw [List.length_take]; omega), List.getElem?_eq_none (by omega)]
theorem extract_drop (s : ByteArray) (i : Nat) : (s.extract i s.size).data.toList = s.data.toList.drop i := by
  have h5 : s.data.toList.length = s.size := Array.length_toList
  rw [ByteArray.data_extract, Array.toList_extract, List.extract_eq_take_drop, List.take_of_length_le (by rw [List.length_drop, h5]; omega)]
theorem pre_yes {s : ByteArray} {i : Nat} {p : List UInt8} (h : Has s i p) : preAt s i p = true := by
  unfold preAt Lib.hasPrefix
  rw [extract_drop, List.isPrefixOf_iff_prefix]
  refine ⟨(s.data.toList.drop i).drop p.length, ?_⟩
  have := List.take_append_drop p.length (s.data.toList.drop i)
  rw [h.take] at this
  exact this
theorem pre_no {s : ByteArray} {i : Nat} {c : UInt8} {p : List UInt8} (h : byteAt s i ≠ c.toNat) : preAt s i (c :: p) = false := by
  cases hp : preAt s i (c :: p) with
  | false => rfl
  | true =>
    exfalso
    unfold preAt Lib.hasPrefix at hp
    rw [extract_drop, List.isPrefixOf_iff_prefix] at hp
    obtain ⟨r, hr⟩ := hp
    have hl : i < s.size := by
      have h5 : s.data.toList.length = s.size := Array.length_toList
      have := congrArg List.length hr
      simp only [List.length_append, List.length_cons, List.length_drop, h5] at this
      omega
    have h2 := Has.part s i 1 (by omega)
    rw [← hr] at h2
    exact h h2.head.1
theorem gap_stay {s : ByteArray} {i : Nat} (h : isGap (byteAt s i) = false) : gapTo s i = i := by
  rw [gapTo, if_neg (fun hx => by rw [h] at hx; exact absurd hx.2 (by simp))]
/-- A byte with which a value may begin. -/
def opens (n : Nat) : Prop := n = 110 ∨ n = 116 ∨ n = 102 ∨ n = 45 ∨ (48 ≤ n ∧ n ≤ 57) ∨ n = 34 ∨ n = 91 ∨ n = 123
theorem opens_gap {n : Nat} (h : opens n) : isGap n = false := by
  unfold opens at h
  unfold isGap
  simp only [Bool.or_eq_false_iff, beq_eq_false_iff_ne]
  omega
theorem put_first : ∀ (x : JV), x.isN → ∃ c q, x.put = c :: q ∧ opens c.toNat
  | .mk k t n d e s l f, h => by
    rw [JV.isN] at h
    unfold opens
    rcases h with ⟨rfl, rfl, rfl, rfl, rfl, rfl, rfl, rfl⟩ | ⟨rfl, rfl, rfl, rfl, rfl, rfl, rfl⟩ | ⟨rfl, rfl, hN, rfl, rfl, rfl⟩ | ⟨rfl, rfl, rfl, rfl, rfl, hv, rfl, rfl⟩ | ⟨rfl, rfl, rfl, rfl, rfl, rfl, hl, rfl⟩ | ⟨rfl, rfl, rfl, rfl, rfl, rfl, rfl, hf, hr⟩
    · rw [JV.put]; exact ⟨110, _, rfl, by decide⟩
    · rw [JV.put]
      cases t with
      | true => exact ⟨116, _, rfl, by decide⟩
      | false => exact ⟨102, _, rfl, by decide⟩
    · rw [JV.put]
      obtain ⟨c, q, e, hc⟩ := text_first hN
      exact ⟨c, q, e, by omega⟩
    · rw [JV.put]; exact ⟨34, _, rfl, by decide⟩
    · rw [JV.put]
      cases l with
      | nil => exact ⟨91, [93], rfl, by decide⟩
      | cons x l => exact ⟨91, _, rfl, by decide⟩
    · rw [JV.put]
      cases f with
      | nil => exact ⟨123, [125], rfl, by decide⟩
      | cons x l =>
        obtain ⟨nm, v⟩ := x
        exact ⟨123, _, rfl, by decide⟩
end Go.Proofs.YtkdeleafgailhaaGreatDoor
end
section
set_option linter.unusedVariables false
set_option linter.unusedSimpArgs false
namespace Go.Proofs.YtkdeleafgailhaaGreatDoor
open Go Go.RowKit

end Go.Proofs.YtkdeleafgailhaaGreatDoor
end
section
set_option linter.unusedVariables false
set_option linter.unusedSimpArgs false
namespace Go.Proofs.YtkdeleafgailhaaGreatDoor
open Go Go.RowKit

def More (v1 v2 : Nat → PR JV) : Prop := ∀ i x j, v1 i = .ok x j → v2 i = .ok x j
end Go.Proofs.YtkdeleafgailhaaGreatDoor
end
section
set_option linter.unusedVariables false
set_option linter.unusedSimpArgs false
namespace Go.Proofs.YtkdeleafgailhaaGreatDoor
open Go Go.RowKit

/-- A value is read back, wherever it is told, if nothing goes on behind it that goes on a number. -/
def Back (x : JV) : Prop := ∀ (D : Nat) (s : ByteArray) (i : Nat), x.deep ≤ D → Has s i x.put → isNum (byteAt s (i + x.put.length)) = false → valF s D i = .ok x (i + x.put.length)

theorem quoted_head {s t : ByteArray} {p : Nat} (h : Has s p (quoted t)) : byteAt s p = 34 := by
  unfold quoted at h
  exact h.head.1
theorem valF_with (s : ByteArray) (D i : Nat) : ∃ lst obj, valF s D i = valWith s lst obj i := by
  cases D with
  | zero => exact ⟨_, _, by rw [valF]⟩
  | succ D => exact ⟨_, _, by rw [valF]⟩

/-- A list's elements. -/
theorem sevL_back {s : ByteArray} {D : Nat} : ∀ (xs : List JV) (x : JV) (acc : List JV) (n p : Nat), (∀ y ∈ x :: xs, y.isN ∧ y.deep ≤ D ∧ Back y) → Has s p (x.put ++ (JV.putL 44 xs ++ [93])) → s.size < p + n →
    sevF s 93 (itemL (valF s D)) n p acc = .ok (acc ++ x :: xs) (p + (x.put ++ (JV.putL 44 xs ++ [93])).length)
  | xs, x, acc, n, p, hy, h, hn => by
    have hle := h.1
    obtain ⟨n, rfl⟩ : ∃ m, n = m + 1 := ⟨n - 1, by omega⟩
    obtain ⟨h1, h2, h3⟩ := hy x (.head _)
    have hR := h.right
    have hnext : ∃ c q, JV.putL 44 xs ++ [93] = c :: q ∧ ((xs = [] ∧ c = 93) ∨ (xs ≠ [] ∧ c = 44)) := by
      cases xs with
      | nil => rw [JV.putL]; exact ⟨93, [], rfl, .inl ⟨rfl, rfl⟩⟩
      | cons y ys => rw [JV.putL]; exact ⟨44, _, rfl, .inr ⟨by simp, rfl⟩⟩
    obtain ⟨c, q, ec, hc⟩ := hnext
    rw [ec] at hR
    have hb := hR.head.1
    have hnum : isNum (byteAt s (p + x.put.length)) = false ∧ isGap (byteAt s (p + x.put.length)) = false := by
      rw [hb]
      rcases hc with ⟨_, rfl⟩ | ⟨_, rfl⟩ <;> exact ⟨rfl, rfl⟩
    have hv := h3 D s p h2 h.left hnum.1
    have hi : itemL (valF s D) p acc = .ok (acc ++ [x]) (p + x.put.length) := by
      unfold itemL
      rw [hv]
    rw [sevF, hi]
    simp only
    rw [gap_stay hnum.2]
    rcases hc with ⟨rfl, rfl⟩ | ⟨hne, rfl⟩
    · have hb2 : byteAt s (p + x.put.length) = 93 := hb
      rw [if_neg (by omega), if_pos hb2]
      rw [JV.putL]
      simp only [List.nil_append, List.length_append, List.length_cons, List.length_nil]
      rfl
    · have hb2 : byteAt s (p + x.put.length) = 44 := hb
      rw [if_pos hb2]
      cases xs with
      | nil => exact absurd rfl hne
      | cons y ys =>
        rw [JV.putL] at ec
        have eq : y.put ++ (JV.putL 44 ys ++ [93]) = q := by
          simp only [List.cons_append] at ec
          injection ec with _ ec
          rw [← ec, List.append_assoc]
        have hT := hR.tail
        rw [← eq] at hT
        obtain ⟨c2, q2, e2, ho⟩ := put_first y (hy y (.tail _ (.head _))).1
        have hf : isGap (byteAt s (p + x.put.length + 1)) = false := by
          have := hT
          rw [e2] at this
          rw [this.head.1]
          exact opens_gap ho
        rw [gap_stay hf, sevL_back ys y (acc ++ [x]) n _ (fun z hz => hy z (.tail _ hz)) hT (by omega)]
        rw [List.append_assoc, JV.putL]
        congr 1
        simp only [List.length_append, List.length_cons, List.length_nil]
        omega
theorem hasName_no {acc : List JF} {nm : ByteArray} (h : ∀ f ∈ acc, lessB f.name nm = true) : hasName acc nm = false := by
  unfold hasName
  rw [List.any_eq_false]
  intro f hf hs
  have e : f.name = nm := by simpa using hs
  have := h f hf
  rw [e, lessB_irrefl] at this
  cases this
/-- An object's fields. -/
theorem sevF_back {s : ByteArray} {D : Nat} : ∀ (xs : List JF) (nm : ByteArray) (v : JV) (acc : List JF) (n p : Nat), (∀ f ∈ JF.mk nm v :: xs, Lib.validD f.name.data.toList = true ∧ f.value.isN ∧ f.value.deep ≤ D ∧ Back f.value) → Rising (acc ++ JF.mk nm v :: xs) →
    Has s p (quoted nm ++ (58 :: (v.put ++ (JV.putF 44 xs ++ [125])))) → s.size < p + n →
    sevF s 125 (fieldAt s (valF s D)) n p acc = .ok (acc ++ JF.mk nm v :: xs) (p + (quoted nm ++ (58 :: (v.put ++ (JV.putF 44 xs ++ [125])))).length)
  | xs, nm, v, acc, n, p, hy, hr, h, hn => by
    have hle := h.1
    obtain ⟨n, rfl⟩ : ∃ m, n = m + 1 := ⟨n - 1, by omega⟩
    obtain ⟨h0, h1, h2, h3⟩ := hy (.mk nm v) (.head _)
    simp only [JF.name, JF.value] at h0 h1 h2 h3
    have hR := h.right
    have hQ := h.left
    have hq0 : byteAt s p = 34 := by
      have := hQ
      unfold quoted at this
      exact this.head.1
    have htx := text_back h0 hQ
    have hcol : byteAt s (p + (quoted nm).length) = 58 := hR.head.1
    have hV := hR.tail
    obtain ⟨c2, q2, e2, ho⟩ := put_first v h1
    have hf : isGap (byteAt s (p + (quoted nm).length + 1)) = false := by
      have := hV.left
      rw [e2] at this
      rw [this.head.1]
      exact opens_gap ho
    have hnext : ∃ c q, JV.putF 44 xs ++ [125] = c :: q ∧ ((xs = [] ∧ c = 125) ∨ (xs ≠ [] ∧ c = 44)) := by
      cases xs with
      | nil => rw [JV.putF]; exact ⟨125, [], rfl, .inl ⟨rfl, rfl⟩⟩
      | cons y ys => obtain ⟨n2, v2⟩ := y; rw [JV.putF]; exact ⟨44, _, rfl, .inr ⟨by simp, rfl⟩⟩
    obtain ⟨c, q, ec, hc⟩ := hnext
    have hE := hV.right
    rw [ec] at hE
    have hb := hE.head.1
    have hnum : isNum (byteAt s (p + (quoted nm).length + 1 + v.put.length)) = false ∧ isGap (byteAt s (p + (quoted nm).length + 1 + v.put.length)) = false := by
      rw [hb]
      rcases hc with ⟨_, rfl⟩ | ⟨_, rfl⟩ <;> exact ⟨rfl, rfl⟩
    have hv := h3 D s _ h2 hV.left hnum.1
    have hlt : ∀ f ∈ acc, lessB f.name nm = true := fun f hf => (List.pairwise_append.1 hr).2.2 f hf (.mk nm v) (.head _)
    have hi : fieldAt s (valF s D) p acc = .ok (acc ++ [JF.mk nm v]) (p + (quoted nm).length + 1 + v.put.length) := by
      unfold fieldAt
      rw [if_pos hq0, htx]
      simp only
      rw [show (⟨nm.data.toList.toArray⟩ : ByteArray) = nm by simp, hasName_no hlt, gap_stay (by rw [hcol]; rfl), if_neg (by simp), if_pos hcol, gap_stay hf, hv]
      rfl
    rw [sevF, hi]
    simp only
    rw [gap_stay hnum.2]
    rcases hc with ⟨rfl, rfl⟩ | ⟨hne, rfl⟩
    · have hb2 : byteAt s (p + (quoted nm).length + 1 + v.put.length) = 125 := hb
      rw [if_neg (by omega), if_pos hb2]
      rw [JV.putF]
      congr 1
      simp only [List.nil_append, List.length_append, List.length_cons, List.length_nil]
      omega
    · have hb2 : byteAt s (p + (quoted nm).length + 1 + v.put.length) = 44 := hb
      rw [if_pos hb2]
      cases xs with
      | nil => exact absurd rfl hne
      | cons y ys =>
        obtain ⟨n2, v2⟩ := y
        rw [JV.putF] at ec
        have eq : quoted n2 ++ (58 :: (v2.put ++ (JV.putF 44 ys ++ [125]))) = q := by
          simp only [List.cons_append] at ec
          injection ec with _ ec
          rw [← ec]
          simp
        have hT := hE.tail
        rw [← eq] at hT
        have hg : isGap (byteAt s (p + (quoted nm).length + 1 + v.put.length + 1)) = false := by
          rw [quoted_head hT.left]
          rfl
        rw [gap_stay hg, sevF_back ys n2 v2 (acc ++ [JF.mk nm v]) n _ (fun z hz => hy z (.tail _ hz)) (by rw [List.append_assoc]; exact hr) hT (by omega)]
        rw [List.append_assoc, JV.putF]
        congr 1
        simp only [List.length_append, List.length_cons, List.length_nil]
        omega
theorem deepL_mem : ∀ {l : List JV} {y : JV}, y ∈ l → y.deep ≤ JV.deepL l
  | x :: l, y, h => by
    rw [JV.deepL]
    rcases List.mem_cons.1 h with rfl | h
    · omega
    · have := deepL_mem h; omega
theorem deepF_mem : ∀ {l : List JF} {f : JF}, f ∈ l → f.value.deep ≤ JV.deepF l
  | .mk nm v :: l, f, h => by
    rw [JV.deepF]
    rcases List.mem_cons.1 h with rfl | h
    · simp only [JF.value]; omega
    · have := deepF_mem h; omega
theorem back_step (x : JV) (hx : x.isN) (hl : ∀ y ∈ x.list, Back y) (hf : ∀ f ∈ x.fields, Back f.value) : Back x := by
  intro D s i hD h he
  obtain ⟨k, t, n, d, e, tx, l, f⟩ := x
  simp only [JV.list, JV.fields] at hl hf
  rw [JV.isN] at hx
  rcases hx with ⟨rfl, rfl, rfl, rfl, rfl, rfl, rfl, rfl⟩ | ⟨rfl, rfl, rfl, rfl, rfl, rfl, rfl⟩ | ⟨rfl, rfl, hN, rfl, rfl, rfl⟩ | ⟨rfl, rfl, rfl, rfl, rfl, hv, rfl, rfl⟩ | ⟨rfl, rfl, rfl, rfl, rfl, rfl, hL, rfl⟩ | ⟨rfl, rfl, rfl, rfl, rfl, rfl, rfl, hF, hr⟩
  · obtain ⟨lst, obj, ev⟩ := valF_with s D i
    rw [ev]
    have hp : (JV.mk 0 false false ⟨#[]⟩ 0 ⟨#[]⟩ [] []).put = [110, 117, 108, 108] := by rw [JV.put]; rfl
    rw [hp] at h ⊢
    have hb : byteAt s i = 110 := h.head.1
    unfold valWith litAt
    rw [if_neg (by omega), if_neg (by omega), if_neg (by omega), if_neg (by omega), pre_yes h, if_pos rfl]
    rfl
  · obtain ⟨lst, obj, ev⟩ := valF_with s D i
    rw [ev]
    cases t with
    | true =>
      have hp : (JV.mk 1 true false ⟨#[]⟩ 0 ⟨#[]⟩ [] []).put = [116, 114, 117, 101] := by rw [JV.put]; rfl
      rw [hp] at h ⊢
      have hb : byteAt s i = 116 := h.head.1
      unfold valWith litAt
      rw [if_neg (by omega), if_neg (by omega), if_neg (by omega), if_neg (by omega), pre_no (by rw [hb]; decide), if_neg (by simp), pre_yes h, if_pos rfl]
      rfl
    | false =>
      have hp : (JV.mk 1 false false ⟨#[]⟩ 0 ⟨#[]⟩ [] []).put = [102, 97, 108, 115, 101] := by rw [JV.put]; rfl
      rw [hp] at h ⊢
      have hb : byteAt s i = 102 := h.head.1
      unfold valWith litAt
      rw [if_neg (by omega), if_neg (by omega), if_neg (by omega), if_neg (by omega), pre_no (by rw [hb]; decide), if_neg (by simp), pre_no (by rw [hb]; decide), if_neg (by simp), pre_yes h, if_pos rfl]
      rfl
  · obtain ⟨lst, obj, ev⟩ := valF_with s D i
    rw [ev]
    have hp : (JV.mk 2 false n d e ⟨#[]⟩ [] []).put = decText n d e := by rw [JV.put]; rfl
    rw [hp] at h he ⊢
    obtain ⟨c, q, ec, hc⟩ := text_first hN
    have hb : byteAt s i = c.toNat := by have := h; rw [ec] at this; exact this.head.1
    unfold valWith
    rw [if_neg (by omega), if_neg (by omega), if_neg (by omega), if_pos (by omega)]
    exact number_back hN h he
  · obtain ⟨lst, obj, ev⟩ := valF_with s D i
    rw [ev]
    have hp : (JV.mk 3 false false ⟨#[]⟩ 0 tx [] []).put = quoted tx := by rw [JV.put]; rfl
    rw [hp] at h he ⊢
    have hb : byteAt s i = 34 := by have := h; unfold quoted at this; exact this.head.1
    unfold valWith
    rw [if_neg (by omega), if_neg (by omega), if_pos hb]
    unfold textVal
    rw [text_back hv h]
  · have hd2 : (JV.mk 4 false false ⟨#[]⟩ 0 ⟨#[]⟩ l []).deep = 1 + JV.deepL l := by rw [JV.deep]; rfl
    rw [hd2] at hD
    obtain ⟨D, rfl⟩ : ∃ m, D = m + 1 := ⟨D - 1, by omega⟩
    rw [valF]
    have hp : (JV.mk 4 false false ⟨#[]⟩ 0 ⟨#[]⟩ l []).put = JV.putL 91 l ++ (if l.length = 0 then [91, 93] else [93]) := by rw [JV.put]; rfl
    rw [hp] at h he ⊢
    cases l with
    | nil =>
      rw [JV.putL] at h he ⊢
      have hb : byteAt s i = 91 := h.head.1
      have hb2 : byteAt s (i + 1) = 93 := h.tail.head.1
      unfold valWith
      rw [if_pos hb]
      unfold sevAt
      rw [gap_stay (by rw [hb2]; rfl), if_pos hb2]
      rfl
    | cons x xs =>
      rw [JV.putL, if_neg (by simp)] at h he ⊢
      rw [List.cons_append, List.append_assoc] at h he ⊢
      have hb : byteAt s i = 91 := h.head.1
      obtain ⟨c2, q2, e2, ho⟩ := put_first x (isNL_iff.1 hL x (.head _))
      have hb2 : byteAt s (i + 1) = c2.toNat := by have := h.tail.left; rw [e2] at this; exact this.head.1
      have hle := h.1
      unfold valWith
      rw [if_pos hb]
      unfold sevAt
      rw [gap_stay (by rw [hb2]; exact opens_gap ho), if_neg (by rw [hb2]; unfold opens at ho; omega)]
      rw [sevL_back xs x [] (s.size + 1) (i + 1) (fun y hy => ⟨isNL_iff.1 hL y hy, by have := deepL_mem hy; omega, hl y hy⟩) h.tail (by omega)]
      show PR.ok _ _ = PR.ok _ _
      congr 1
      simp only [List.length_cons]
      omega
  · have hd2 : (JV.mk 5 false false ⟨#[]⟩ 0 ⟨#[]⟩ [] f).deep = 1 + JV.deepF f := by rw [JV.deep]; rfl
    rw [hd2] at hD
    obtain ⟨D, rfl⟩ : ∃ m, D = m + 1 := ⟨D - 1, by omega⟩
    rw [valF]
    have hp : (JV.mk 5 false false ⟨#[]⟩ 0 ⟨#[]⟩ [] f).put = JV.putF 123 f ++ (if f.length = 0 then [123, 125] else [125]) := by rw [JV.put]; rfl
    rw [hp] at h he ⊢
    cases f with
    | nil =>
      rw [JV.putF] at h he ⊢
      have hb : byteAt s i = 123 := h.head.1
      have hb2 : byteAt s (i + 1) = 125 := h.tail.head.1
      unfold valWith
      rw [if_neg (by omega), if_pos hb]
      unfold sevAt
      rw [gap_stay (by rw [hb2]; rfl), if_pos hb2]
      rfl
    | cons x xs =>
      obtain ⟨nm, v⟩ := x
      rw [JV.putF, if_neg (by simp)] at h he ⊢
      rw [List.cons_append, List.append_assoc, List.cons_append, List.append_assoc] at h he ⊢
      have hb : byteAt s i = 123 := h.head.1
      have hb2 : byteAt s (i + 1) = 34 := by have := h.tail.left; unfold quoted at this; exact this.head.1
      have hle := h.1
      unfold valWith
      rw [if_neg (by omega), if_pos hb]
      unfold sevAt
      rw [gap_stay (by rw [hb2]; rfl), if_neg (by omega)]
      rw [sevF_back xs nm v [] (s.size + 1) (i + 1) (fun g hg => ⟨(isNF_iff.1 hF g hg).1, (isNF_iff.1 hF g hg).2, by have := deepF_mem hg; omega, hf g hg⟩) hr h.tail (by omega)]
      show PR.ok _ _ = PR.ok _ _
      congr 1
      simp only [List.length_cons]
      omega
theorem back_all : ∀ (n : Nat) (x : JV), x.wt ≤ n → x.isN → Back x
  | 0, .mk k t n d e s l f, h, _ => by rw [JV.wt] at h; omega
  | m + 1, .mk k t n d e s l f, h, hx => by
    rw [JV.wt] at h
    have hm : (∀ y ∈ l, y.isN) ∧ (∀ g ∈ f, g.value.isN) := by
      rw [JV.isN] at hx
      rcases hx with ⟨_, _, _, _, _, _, rfl, rfl⟩ | ⟨_, _, _, _, _, rfl, rfl⟩ | ⟨_, _, _, _, rfl, rfl⟩ | ⟨_, _, _, _, _, _, rfl, rfl⟩ | ⟨_, _, _, _, _, _, hL, rfl⟩ | ⟨_, _, _, _, _, _, rfl, hF, _⟩
      · exact ⟨(fun y h => nomatch h), (fun y h => nomatch h)⟩
      · exact ⟨(fun y h => nomatch h), (fun y h => nomatch h)⟩
      · exact ⟨(fun y h => nomatch h), (fun y h => nomatch h)⟩
      · exact ⟨(fun y h => nomatch h), (fun y h => nomatch h)⟩
      · exact ⟨isNL_iff.1 hL, (fun y h => nomatch h)⟩
      · exact ⟨(fun y h => nomatch h), fun g hg => (isNF_iff.1 hF g hg).2⟩
    exact back_step _ hx (fun y hy => back_all m y (by have := wt_memL hy; simp only [JV.list] at this; omega) (hm.1 y hy)) (fun g hg => back_all m _ (by have := wt_memF hg; simp only [JV.fields] at this; omega) (hm.2 g hg))
/-- **There and back.** -/
theorem back_any (x : JV) (hx : x.isN) : Back x := back_all _ x (Nat.le_refl _) hx
/-- What is told and nothing else is read as it. -/
theorem back_whole (x : JV) (hx : x.isN) {D : Nat} (hD : x.deep ≤ D) : valF ⟨x.put.toArray⟩ D 0 = .ok x x.put.length := by
  have hall : Has ⟨x.put.toArray⟩ 0 x.put := by have := Has.all ⟨x.put.toArray⟩; simpa using this
  have := back_any x hx D ⟨x.put.toArray⟩ 0 hD hall (by rw [byteAt_end (by rw [size_mk]; omega)]; rfl)
  rw [Nat.zero_add] at this
  exact this
end Go.Proofs.YtkdeleafgailhaaGreatDoor
end
section
set_option linter.unusedVariables false
set_option linter.unusedSimpArgs false
namespace Go.Proofs.YtkdeleafgailhaaGreatDoor
open Go Go.RowKit

theorem told_gap (x : JV) (hx : x.isN) : gapTo ⟨x.put.toArray⟩ 0 = 0 := by
  obtain ⟨c, q, hq, ho⟩ := put_first x hx
  apply gap_stay
  have hall : Has ⟨x.put.toArray⟩ 0 x.put := by have := Has.all ⟨x.put.toArray⟩; simpa using this
  have hb : byteAt ⟨x.put.toArray⟩ 0 = c.toNat := by
    rw [hq] at hall ⊢
    exact hall.head.1
  rw [hb]
  exact opens_gap ho
/-- Told, and no deeper than may be: read as it. -/
theorem parse_told (x : JV) (hx : x.isN) (hD : x.deep ≤ 64) : ∃ j, parseTo ⟨x.put.toArray⟩ = .ok x j := by
  have h := back_whole x hx hD
  have hsz : (⟨x.put.toArray⟩ : ByteArray).size = x.put.length := size_mk _
  refine ⟨x.put.length, ?_⟩
  unfold parseTo
  rw [told_gap x hx, h]
  show (if gapTo _ x.put.length < _ then _ else _) = _
  have hg : gapTo ⟨x.put.toArray⟩ x.put.length = x.put.length := gap_stay (by rw [byteAt_end (by rw [hsz]; omega)]; rfl)
  rw [hg, if_neg (by rw [hsz]; omega), norm_of_isN x hx]
end Go.Proofs.YtkdeleafgailhaaGreatDoor
end
section
set_option linter.unusedVariables false
set_option linter.unusedSimpArgs false
namespace Go.Proofs.YtkdeleafgailhaaGreatDoor
open Go Go.RowKit Go.Proofs.YtkdeleafgailhaaGreatDoorW.PrintWords

theorem placeD_ext {b q r : List UInt8} {l : List Int} (h : placeD b = some (l, r)) : placeD (b ++ q) = some (l, r ++ q) := by
  unfold placeD at h ⊢
  cases hc : cntD b with
  | none => rw [hc] at h; cases h
  | some p =>
    obtain ⟨n, r0⟩ := p
    rw [hc] at h
    rw [cntD_ext hc]
    dsimp only at h ⊢
    by_cases hn : n ≤ 192
    · rw [if_pos hn] at h ⊢
      exact rep_ext n h
    · rw [if_neg hn] at h; cases h
def placeT (l : List Int) : List UInt8 := cntE l.length ++ placeE l
theorem placeD_E (l : List Int) (rest : List UInt8) (hl : l.length ≤ 192) (h : ∀ n ∈ l, 0 ≤ n ∧ n ≤ 2147483647) : placeD (placeT l ++ rest) = some (l, rest) := by
  unfold placeD placeT
  rw [List.append_assoc, cntD_E _ _ (by omega)]
  dsimp only
  rw [if_pos hl]
  exact rep_E l rest h
theorem placeD_inv {b r : List UInt8} {l : List Int} (h : placeD b = some (l, r)) : b = placeT l ++ r := by
  unfold placeD at h
  cases hc : cntD b with
  | none => rw [hc] at h; cases h
  | some p =>
    obtain ⟨n, r0⟩ := p
    rw [hc] at h
    dsimp only at h
    by_cases hn : n ≤ 192
    · rw [if_pos hn] at h
      obtain ⟨e1, e2, _⟩ := rep_inv n h
      obtain ⟨hb, _⟩ := cntD_inv hc
      unfold placeT
      rw [hb, e1, e2, List.append_assoc]
    · rw [if_neg hn] at h; cases h

/-! ### outcomes -/
structure Outc where
  fine : Bool
  value : JV
  err : List UInt8
  cause : List UInt8
/-- What Parse takes of a text's bytes. -/
def prs (s : List UInt8) : Option JV := if s.length ≤ 1048576 then (match parseTo ⟨s.toArray⟩ with
  | .ok x _ => some x
  | .no _ _ => none) else none
def outE (o : Outc) : List UInt8 := if o.fine then 1 :: textE o.value.print else 0 :: (textE o.err ++ textE o.cause)
def outD : List UInt8 → Option (Outc × List UInt8)
  | [] => none
  | h :: b => if h.toNat = 0 then (match textD b with
      | none => none
      | some (e, b2) => match textD b2 with
        | none => none
        | some (c, b3) => some (⟨false, JV.nul, e, c⟩, b3))
    else if h.toNat = 1 then (match textD b with
      | none => none
      | some (s, b2) => match prs s with
        | none => none
        | some v => if v.print = s then some (⟨true, v, [], []⟩, b2) else none)
    else none
def takenP (o : Outc) : Prop := if o.fine then (o.err = [] ∧ o.cause = []) ∧ o.value.norm.deep ≤ 64 ∧ o.value.print.length ≤ 1048576
  else (Lib.validD o.err = true ∧ Lib.validD o.cause = true) ∧ o.err.length + o.cause.length ≤ 1048576 ∧ o.value.print = JV.nul.print
/-- An outcome as it is read again. -/
def putO (o : Outc) : Outc := if o.fine then ⟨true, o.value.norm, [], []⟩ else ⟨false, JV.nul, o.err, o.cause⟩
theorem print_norm (x : JV) : x.norm.print = x.print := by
  unfold JV.print
  rw [norm_norm]
theorem prs_print (x : JV) (hd : x.norm.deep ≤ 64) (hl : x.print.length ≤ 1048576) : prs x.print = some x.norm := by
  obtain ⟨j, hj⟩ := parse_told x.norm (norm_isN x) hd
  have e : x.print = x.norm.put := rfl
  unfold prs
  rw [if_pos hl, e, hj]
theorem outD_ext {b q r : List UInt8} {o : Outc} (h : outD b = some (o, r)) : outD (b ++ q) = some (o, r ++ q) := by
  cases b with
  | nil => cases h
  | cons c b =>
    rw [List.cons_append]
    unfold outD at h ⊢
    dsimp only at h ⊢
    by_cases h0 : c.toNat = 0
    · rw [if_pos h0] at h ⊢
      cases h1 : textD b with
      | none => rw [h1] at h; cases h
      | some p =>
        obtain ⟨e, b2⟩ := p
        rw [h1] at h
        rw [textD_ext h1]
        dsimp only at h ⊢
        cases h2 : textD b2 with
        | none => rw [h2] at h; cases h
        | some p2 =>
          obtain ⟨c2, b3⟩ := p2
          rw [h2] at h
          rw [textD_ext h2]
          dsimp only at h ⊢
          injection h with h
          injection h with e1 e2
          rw [e1, e2]
    · rw [if_neg h0] at h ⊢
      by_cases h9 : c.toNat = 1
      · rw [if_pos h9] at h ⊢
        cases h1 : textD b with
        | none => rw [h1] at h; cases h
        | some p =>
          obtain ⟨s, b2⟩ := p
          rw [h1] at h
          rw [textD_ext h1]
          dsimp only at h ⊢
          cases h2 : prs s with
          | none => rw [h2] at h; cases h
          | some v =>
            rw [h2] at h
            dsimp only at h ⊢
            by_cases hv : v.print = s
            · rw [if_pos hv] at h ⊢
              injection h with h
              injection h with e1 e2
              rw [e1, e2]
            · rw [if_neg hv] at h; cases h
      · rw [if_neg h9] at h; cases h
theorem outD_E (o : Outc) (rest : List UInt8) (ht : takenP o) : outD (outE o ++ rest) = some (putO o, rest) := by
  unfold takenP at ht
  unfold outE putO
  cases hf : o.fine with
  | true =>
    rw [hf] at ht
    simp only [if_true] at ht ⊢
    obtain ⟨_, hd, hl⟩ := ht
    show outD (1 :: textE o.value.print ++ rest) = _
    rw [List.cons_append]
    unfold outD
    dsimp only
    rw [if_neg (by decide), if_pos (by decide), textD_E _ _ (by omega)]
    dsimp only
    rw [prs_print _ hd hl]
    dsimp only
    rw [if_pos (print_norm _)]
  | false =>
    rw [hf] at ht
    simp only [Bool.false_eq_true, if_false] at ht ⊢
    obtain ⟨_, hl, _⟩ := ht
    rw [List.cons_append, List.append_assoc]
    unfold outD
    dsimp only
    rw [if_pos (by decide), textD_E _ _ (by omega)]
    dsimp only
    rw [textD_E _ _ (by omega)]
theorem outE_put (o : Outc) : outE (putO o) = outE o := by
  unfold outE putO
  cases o.fine with
  | true => simp only [if_true]; rw [print_norm]
  | false => simp only [Bool.false_eq_true, if_false]
theorem taken_put (o : Outc) (ht : takenP o) : takenP (putO o) := by
  unfold takenP putO at *
  cases hf : o.fine with
  | true =>
    rw [hf] at ht
    simp only [if_true] at ht ⊢
    rw [norm_norm, print_norm]
    exact ⟨⟨trivial, trivial⟩, ht.2⟩
  | false =>
    rw [hf] at ht
    simp only [Bool.false_eq_true, if_false] at ht ⊢
    exact ⟨ht.1, ht.2.1, trivial⟩
theorem outD_inv {b r : List UInt8} {o : Outc} (h : outD b = some (o, r)) : b = outE o ++ r := by
  cases b with
  | nil => cases h
  | cons c b =>
    unfold outD at h
    dsimp only at h
    by_cases h0 : c.toNat = 0
    · rw [if_pos h0] at h
      cases h1 : textD b with
      | none => rw [h1] at h; cases h
      | some p =>
        obtain ⟨e, b2⟩ := p
        rw [h1] at h
        dsimp only at h
        cases h2 : textD b2 with
        | none => rw [h2] at h; cases h
        | some p2 =>
          obtain ⟨c2, b3⟩ := p2
          rw [h2] at h
          dsimp only at h
          injection h with h
          injection h with e1 e2
          subst e1 e2
          have hc : c = 0 := UInt8.toNat_inj.1 h0
          show c :: b = (0 :: (textE e ++ textE c2)) ++ b3
          rw [hc, List.cons_append, List.append_assoc, ← textD_inv h2, ← textD_inv h1]
    · rw [if_neg h0] at h
      by_cases h9 : c.toNat = 1
      · rw [if_pos h9] at h
        cases h1 : textD b with
        | none => rw [h1] at h; cases h
        | some p =>
          obtain ⟨s, b2⟩ := p
          rw [h1] at h
          dsimp only at h
          cases h2 : prs s with
          | none => rw [h2] at h; cases h
          | some v =>
            rw [h2] at h
            dsimp only at h
            by_cases hv : v.print = s
            · rw [if_pos hv] at h
              injection h with h
              injection h with e1 e2
              subst e1 e2
              have hc : c = 1 := UInt8.toNat_inj.1 h9
              show c :: b = (1 :: textE v.print) ++ b2
              rw [hc, List.cons_append, hv, ← textD_inv h1]
            · rw [if_neg hv] at h; cases h
      · rw [if_neg h9] at h; cases h

/-! ### events -/
structure Evn where
  kind : Int
  place : List Int
  time : Int
  out : Outc
  machine : List UInt8
  input : List UInt8
  fuel : Int
inductive EvPart where
  | m | i | f | t | p | o
  deriving DecidableEq
/-- A kind's parts. -/
def partsOf (k : Int) : List EvPart := if k = 1 then [.m, .i, .f] else if k = 2 then [.p] else if k = 3 then [.p] else if k = 4 then [.p, .o] else if k = 5 then [.p, .t] else if k = 6 then [.p, .t] else if k = 7 then [.p] else []
def mayP : EvPart → Evn → Prop
  | .m, e => e.machine.length ≤ 1048576
  | .i, e => e.input.length ≤ 1048576
  | .f, e => 1 ≤ e.fuel ∧ e.fuel ≤ 65536
  | .t, e => 0 ≤ e.time ∧ e.time ≤ 1125899906842624
  | .p, e => e.place.length ≤ 192 ∧ ∀ n ∈ e.place, 0 ≤ n ∧ n ≤ 2147483647
  | .o, e => takenP e.out
def tellP : EvPart → Evn → List UInt8
  | .m, e => textE e.machine
  | .i, e => textE e.input
  | .f, e => cntE e.fuel.toNat
  | .t, e => cntE e.time.toNat
  | .p, e => placeT e.place
  | .o, e => outE e.out
/-- A part is read into an event. -/
def readP : EvPart → Evn → List UInt8 → Option (Evn × List UInt8)
  | .m, e, b => (textD b).map fun x => ({ e with machine := x.1 }, x.2)
  | .i, e, b => (textD b).map fun x => ({ e with input := x.1 }, x.2)
  | .f, e, b => (cntD b).map fun x => ({ e with fuel := x.1 }, x.2)
  | .t, e, b => (cntD b).map fun x => ({ e with time := x.1 }, x.2)
  | .p, e, b => (placeD b).map fun x => ({ e with place := x.1 }, x.2)
  | .o, e, b => (outD b).map fun x => ({ e with out := x.1 }, x.2)
/-- A part of d, as e's is read again. -/
def putP : EvPart → Evn → Evn → Evn
  | .m, d, e => { d with machine := e.machine }
  | .i, d, e => { d with input := e.input }
  | .f, d, e => { d with fuel := e.fuel }
  | .t, d, e => { d with time := e.time }
  | .p, d, e => { d with place := e.place }
  | .o, d, e => { d with out := putO e.out }
def agree (c : EvPart) (d e : Evn) : Prop := (mayP c d ↔ mayP c e) ∧ tellP c d = tellP c e
theorem readP_ext (c : EvPart) {e e' : Evn} {b q r : List UInt8} (h : readP c e b = some (e', r)) : readP c e (b ++ q) = some (e', r ++ q) := by
  cases c
  all_goals
    unfold readP at h ⊢
    dsimp only at h ⊢
    obtain ⟨x, hx, hx2⟩ := Option.map_eq_some_iff.1 h
    injection hx2 with h1 h2
  · rw [textD_ext (r := x.2) (s := x.1) hx]; show some _ = _; rw [← h1, ← h2]
  · rw [textD_ext (r := x.2) (s := x.1) hx]; show some _ = _; rw [← h1, ← h2]
  · rw [cntD_ext (r := x.2) (m := x.1) hx]; show some _ = _; rw [← h1, ← h2]
  · rw [cntD_ext (r := x.2) (m := x.1) hx]; show some _ = _; rw [← h1, ← h2]
  · rw [placeD_ext (r := x.2) (l := x.1) hx]; show some _ = _; rw [← h1, ← h2]
  · rw [outD_ext (r := x.2) (o := x.1) hx]; show some _ = _; rw [← h1, ← h2]
theorem read_tell (c : EvPart) (d e : Evn) (rest : List UInt8) (h : mayP c e) : readP c d (tellP c e ++ rest) = some (putP c d e, rest) := by
  cases c
  all_goals (unfold mayP at h; unfold readP tellP putP; dsimp only at h ⊢)
  · rw [textD_E _ _ (by omega)]; rfl
  · rw [textD_E _ _ (by omega)]; rfl
  · rw [cntD_E _ _ (by omega)]
    show some ({ d with fuel := (e.fuel.toNat : Int) }, rest) = _
    rw [Int.toNat_of_nonneg (by omega)]
  · rw [cntD_E _ _ (by omega)]
    show some ({ d with time := (e.time.toNat : Int) }, rest) = _
    rw [Int.toNat_of_nonneg (by omega)]
  · rw [placeD_E _ _ h.1 h.2]; rfl
  · rw [outD_E _ _ h]; rfl
theorem put_agree (c : EvPart) (d e : Evn) (h : mayP c e) : mayP c (putP c d e) ∧ tellP c (putP c d e) = tellP c e := by
  cases c
  · exact ⟨h, rfl⟩
  · exact ⟨h, rfl⟩
  · exact ⟨h, rfl⟩
  · exact ⟨h, rfl⟩
  · exact ⟨h, rfl⟩
  · exact ⟨taken_put _ h, outE_put _⟩
theorem put_other (c c' : EvPart) (d e : Evn) (h : c ≠ c') : agree c (putP c' d e) d := by
  cases c <;> cases c' <;> first | exact absurd rfl h | exact ⟨Iff.rfl, rfl⟩
theorem put_kind (c : EvPart) (d e : Evn) : (putP c d e).kind = d.kind := by cases c <;> rfl
theorem read_inv (c : EvPart) {d d' : Evn} {b r : List UInt8} (h : readP c d b = some (d', r)) : b = tellP c d' ++ r := by
  cases c
  all_goals
    unfold readP at h
    dsimp only at h
    obtain ⟨x, hx, hx2⟩ := Option.map_eq_some_iff.1 h
    injection hx2 with h1 h2
    subst h1 h2
    unfold tellP
    dsimp only
  · exact textD_inv hx
  · exact textD_inv hx
  · rw [Int.toNat_natCast]; exact (cntD_inv hx).1
  · rw [Int.toNat_natCast]; exact (cntD_inv hx).1
  · exact placeD_inv hx
  · exact outD_inv hx
theorem read_other (c c' : EvPart) {d d' : Evn} {b r : List UInt8} (h : readP c' d b = some (d', r)) (hne : c ≠ c') : agree c d' d := by
  cases c'
  all_goals
    unfold readP at h
    dsimp only at h
    obtain ⟨x, hx, hx2⟩ := Option.map_eq_some_iff.1 h
    injection hx2 with h1 h2
    subst h1
    cases c <;> first | exact absurd rfl hne | exact ⟨Iff.rfl, rfl⟩
theorem read_kind (c : EvPart) {d d' : Evn} {b r : List UInt8} (h : readP c d b = some (d', r)) : d'.kind = d.kind := by
  cases c
  all_goals
    unfold readP at h
    dsimp only at h
    obtain ⟨x, hx, hx2⟩ := Option.map_eq_some_iff.1 h
    injection hx2 with h1 h2
    subst h1
    rfl
end Go.Proofs.YtkdeleafgailhaaGreatDoor
end
section
set_option linter.unusedVariables false
set_option linter.unusedSimpArgs false
namespace Go.Proofs.YtkdeleafgailhaaGreatDoor
open Go Go.RowKit Go.Proofs.YtkdeleafgailhaaGreatDoorW.PrintWords

def tellsP (ps : List EvPart) (e : Evn) : List UInt8 := ps.flatMap (tellP · e)
/-- Encode takes it. -/
def encs (e : Evn) : Prop := partsOf e.kind ≠ [] ∧ ∀ c ∈ partsOf e.kind, mayP c e
def encB (e : Evn) : List UInt8 := UInt8.ofNat e.kind.toNat :: tellsP (partsOf e.kind) e
open Classical in
noncomputable def decP : List EvPart → Evn → List UInt8 → Option (Evn × List UInt8)
  | [], d, b => some (d, b)
  | c :: cs, d, b => match readP c d b with
    | none => none
    | some (d', b') => if mayP c d' then decP cs d' b' else none
def zeroE (k : Int) : Evn := ⟨k, [], 0, ⟨false, JV.nul, [], []⟩, [], [], 0⟩
noncomputable def dec : List UInt8 → Option Evn
  | [] => none
  | k :: b => if partsOf k.toNat = [] then none else match decP (partsOf k.toNat) (zeroE k.toNat) b with
    | some (e, []) => some e
    | _ => none
def foldE (ps : List EvPart) (d e : Evn) : Evn := ps.foldl (fun d c => putP c d e) d
theorem decP_ext : ∀ (ps : List EvPart) {d e : Evn} {b q r : List UInt8}, decP ps d b = some (e, r) → decP ps d (b ++ q) = some (e, r ++ q)
  | [], d, e, b, q, r, h => by
    unfold decP at h ⊢
    injection h with h
    injection h with h1 h2
    rw [h1, h2]
  | c :: cs, d, e, b, q, r, h => by
    unfold decP at h ⊢
    cases hr : readP c d b with
    | none => rw [hr] at h; cases h
    | some p =>
      obtain ⟨d', b'⟩ := p
      rw [hr] at h
      rw [readP_ext c hr]
      dsimp only at h ⊢
      by_cases hm : mayP c d'
      · rw [if_pos hm] at h ⊢
        exact decP_ext cs h
      · rw [if_neg hm] at h; cases h
theorem decP_tells : ∀ (ps : List EvPart) (d e : Evn) (rest : List UInt8), (∀ c ∈ ps, mayP c e) → decP ps d (tellsP ps e ++ rest) = some (foldE ps d e, rest)
  | [], d, e, rest, _ => rfl
  | c :: cs, d, e, rest, h => by
    have e1 : tellsP (c :: cs) e ++ rest = tellP c e ++ (tellsP cs e ++ rest) := by
      show (c :: cs).flatMap _ ++ rest = _
      rw [List.flatMap_cons, List.append_assoc]; rfl
    unfold decP
    rw [e1, read_tell c d e _ (h c (.head _))]
    dsimp only
    rw [if_pos (put_agree c d e (h c (.head _))).1]
    exact decP_tells cs (putP c d e) e rest (fun c' hc => h c' (.tail _ hc))
theorem fold_keep (c : EvPart) : ∀ (ps : List EvPart) (d e : Evn), mayP c e → mayP c d ∧ tellP c d = tellP c e → mayP c (foldE ps d e) ∧ tellP c (foldE ps d e) = tellP c e
  | [], d, e, _, h => h
  | c' :: cs, d, e, hm, h => by
    refine fold_keep c cs (putP c' d e) e hm ?_
    by_cases hc : c = c'
    · subst hc; exact put_agree c d e hm
    · obtain ⟨a1, a2⟩ := put_other c c' d e hc
      exact ⟨a1.2 h.1, a2.trans h.2⟩
theorem fold_agree (c : EvPart) : ∀ (ps : List EvPart) (d e : Evn), c ∈ ps → mayP c e → mayP c (foldE ps d e) ∧ tellP c (foldE ps d e) = tellP c e
  | [], d, e, h, _ => nomatch h
  | c' :: cs, d, e, h, hm => by
    rcases List.mem_cons.1 h with rfl | h
    · exact fold_keep c cs (putP c d e) e hm (put_agree c d e hm)
    · exact fold_agree c cs (putP c' d e) e h hm
theorem fold_kind : ∀ (ps : List EvPart) (d e : Evn), (foldE ps d e).kind = d.kind
  | [], _, _ => rfl
  | c :: cs, d, e => (fold_kind cs (putP c d e) e).trans (put_kind c d e)
theorem tells_congr (ps : List EvPart) (d e : Evn) (h : ∀ c ∈ ps, tellP c d = tellP c e) : tellsP ps d = tellsP ps e := by
  induction ps with
  | nil => rfl
  | cons c cs ih =>
    show (c :: cs).flatMap _ = (c :: cs).flatMap _
    rw [List.flatMap_cons, List.flatMap_cons, h c (.head _)]
    have := ih (fun c' hc => h c' (.tail _ hc))
    unfold tellsP at this
    rw [this]
theorem decP_inv : ∀ (ps : List EvPart) {d e : Evn} {b r : List UInt8}, ps.Nodup → decP ps d b = some (e, r) → b = tellsP ps e ++ r ∧ (∀ c ∈ ps, mayP c e) ∧ e.kind = d.kind ∧ ∀ c, c ∉ ps → agree c e d
  | [], d, e, b, r, _, h => by
    unfold decP at h
    injection h with h
    injection h with h1 h2
    subst h1 h2
    exact ⟨rfl, (fun c hc => nomatch hc), rfl, fun c _ => ⟨Iff.rfl, rfl⟩⟩
  | c :: cs, d, e, b, r, hn, h => by
    unfold decP at h
    cases hr : readP c d b with
    | none => rw [hr] at h; cases h
    | some p =>
      obtain ⟨d', b'⟩ := p
      rw [hr] at h
      dsimp only at h
      by_cases hm : mayP c d'
      · rw [if_pos hm] at h
        obtain ⟨hc, hn'⟩ := List.nodup_cons.1 hn
        obtain ⟨e1, e2, e3, e4⟩ := decP_inv cs hn' h
        obtain ⟨a1, a2⟩ := e4 c hc
        refine ⟨?_, fun c' hc' => ?_, e3.trans (read_kind c hr), fun c' hc' => ?_⟩
        · rw [read_inv c hr, e1, ← a2]
          show _ = (c :: cs).flatMap _ ++ r
          rw [List.flatMap_cons, List.append_assoc]; rfl
        · rcases List.mem_cons.1 hc' with rfl | hc'
          · exact a1.2 hm
          · exact e2 c' hc'
        · obtain ⟨b1, b2⟩ := e4 c' (fun h => hc' (.tail _ h))
          obtain ⟨b3, b4⟩ := read_other c' c hr (fun h => hc' (h ▸ .head _))
          exact ⟨b1.trans b3, b2.trans b4⟩
      · rw [if_neg hm] at h; cases h
theorem parts_range {k : Int} (h : partsOf k ≠ []) : 1 ≤ k ∧ k ≤ 7 := by
  unfold partsOf at h
  by_cases h1 : k = 1
  · omega
  by_cases h2 : k = 2
  · omega
  by_cases h3 : k = 3
  · omega
  by_cases h4 : k = 4
  · omega
  by_cases h5 : k = 5
  · omega
  by_cases h6 : k = 6
  · omega
  by_cases h7 : k = 7
  · omega
  rw [if_neg h1, if_neg h2, if_neg h3, if_neg h4, if_neg h5, if_neg h6, if_neg h7] at h
  exact absurd rfl h
theorem parts_nodup (k : Int) : (partsOf k).Nodup ∧ (partsOf k).length ≤ 3 := by
  unfold partsOf
  split; exact ⟨by decide, by decide⟩
  split; exact ⟨by decide, by decide⟩
  split; exact ⟨by decide, by decide⟩
  split; exact ⟨by decide, by decide⟩
  split; exact ⟨by decide, by decide⟩
  split; exact ⟨by decide, by decide⟩
  split; exact ⟨by decide, by decide⟩
  exact ⟨by decide, by decide⟩
theorem text_len (s : List UInt8) (h : s.length ≤ 1048576) : (textE s).length ≤ s.length + 3 := by
  have := cntE_len 3 s.length (by omega) (by show s.length < 2097152; omega)
  unfold textE
  rw [List.length_append]; omega
theorem tell_len (c : EvPart) (e : Evn) (h : mayP c e) : (tellP c e).length ≤ 1048600 := by
  cases c
  all_goals (unfold mayP at h; unfold tellP; dsimp only at h ⊢)
  · have := text_len _ h; omega
  · have := text_len _ h; omega
  · have := cntE_len 3 e.fuel.toNat (by omega) (by show e.fuel.toNat < 2097152; omega); omega
  · have := cntE_len 8 e.time.toNat (by omega) (by show e.time.toNat < 72057594037927936; omega); omega
  · have h1 := cntE_len 2 e.place.length (by omega) (by show e.place.length < 16384; omega)
    have h2 := placeE_len e.place h.2
    unfold placeT
    rw [List.length_append]; omega
  · unfold takenP at h
    unfold outE
    cases hf : e.out.fine with
    | true =>
      rw [hf] at h
      simp only [if_true] at h ⊢
      have := text_len _ h.2.2
      rw [List.length_cons]; omega
    | false =>
      rw [hf] at h
      simp only [Bool.false_eq_true, if_false] at h ⊢
      have h1 := text_len e.out.err (by omega)
      have h2 := text_len e.out.cause (by omega)
      rw [List.length_cons, List.length_append]; omega
theorem tells_len : ∀ (ps : List EvPart) (e : Evn), (∀ c ∈ ps, mayP c e) → (tellsP ps e).length ≤ 1048600 * ps.length
  | [], _, _ => by simp [tellsP]
  | c :: cs, e, h => by
    have h1 := tell_len c e (h c (.head _))
    have h2 := tells_len cs e (fun c' hc => h c' (.tail _ hc))
    show ((c :: cs).flatMap _).length ≤ _
    unfold tellsP at h2
    rw [List.flatMap_cons, List.length_append, List.length_cons]
    omega
theorem kind_byte {k : Int} (h : partsOf k ≠ []) : ((UInt8.ofNat k.toNat).toNat : Int) = k := by
  obtain ⟨h1, h2⟩ := parts_range h
  rw [u8_toNat (by omega)]
  omega
/-- Told and read again. -/
theorem enc_dec (e : Evn) (h : encs e) : ∃ d, dec (encB e) = some d ∧ d.kind = e.kind ∧ encs d ∧ encB d = encB e ∧ (∀ k, k < (encB e).length → dec ((encB e).take k) = none) ∧ (∀ m, dec (encB e ++ [m]) = none) ∧ (encB e).length ≤ 4194304 := by
  obtain ⟨hk, hm⟩ := h
  have hkb := kind_byte hk
  have hk2 : partsOf ((UInt8.ofNat e.kind.toNat).toNat : Int) ≠ [] := by rw [hkb]; exact hk
  have hD := decP_tells (partsOf e.kind) (zeroE e.kind) e [] hm
  rw [List.append_nil] at hD
  refine ⟨foldE (partsOf e.kind) (zeroE e.kind) e, ?_, fold_kind _ _ _, ?_, ?_, fun k hk' => ?_, fun m => ?_, ?_⟩
  · unfold encB dec
    dsimp only
    rw [if_neg hk2, hkb, hD]
  · have hkk : (foldE (partsOf e.kind) (zeroE e.kind) e).kind = e.kind := fold_kind _ _ _
    refine ⟨by rw [hkk]; exact hk, fun c hc => ?_⟩
    rw [hkk] at hc
    exact (fold_agree c _ _ e hc (hm c hc)).1
  · have hkk : (foldE (partsOf e.kind) (zeroE e.kind) e).kind = e.kind := fold_kind _ _ _
    unfold encB
    rw [hkk, tells_congr _ _ e (fun c hc => (fold_agree c _ _ e hc (hm c hc)).2)]
  · unfold encB at hk' ⊢
    cases k with
    | zero => rfl
    | succ k =>
      rw [List.take_succ_cons]
      rw [List.length_cons] at hk'
      unfold dec
      dsimp only
      rw [if_neg hk2, hkb]
      cases hp : decP (partsOf e.kind) (zeroE e.kind) ((tellsP (partsOf e.kind) e).take k) with
      | none => rfl
      | some p =>
        obtain ⟨d, r⟩ := p
        cases r with
        | cons x xs => rfl
        | nil =>
          have := decP_ext _ (q := (tellsP (partsOf e.kind) e).drop k) hp
          rw [List.take_append_drop, hD] at this
          injection this with this
          injection this with _ this
          have h0 := congrArg List.length this
          rw [List.nil_append, List.length_drop, List.length_nil] at h0
          omega
  · unfold encB dec
    rw [List.cons_append]
    dsimp only
    rw [if_neg hk2, hkb, decP_ext _ (q := [m]) hD]
    rfl
  · have h1 := tells_len _ e hm
    have h2 := (parts_nodup e.kind).2
    unfold encB
    rw [List.length_cons]
    have : 1048600 * (partsOf e.kind).length ≤ 1048600 * 3 := Nat.mul_le_mul_left _ h2
    omega
/-- Read and told again. -/
theorem dec_enc (b : List UInt8) (d : Evn) (h : dec b = some d) : encs d ∧ encB d = b := by
  cases b with
  | nil => cases h
  | cons k b =>
    unfold dec at h
    dsimp only at h
    by_cases hk : partsOf (k.toNat : Int) = []
    · rw [if_pos hk] at h; cases h
    · rw [if_neg hk] at h
      cases hp : decP (partsOf (k.toNat : Int)) (zeroE (k.toNat : Int)) b with
      | none => rw [hp] at h; cases h
      | some p =>
        obtain ⟨d', r⟩ := p
        rw [hp] at h
        cases r with
        | cons x xs => cases h
        | nil =>
          dsimp only at h
          injection h with h
          subst h
          obtain ⟨e1, e2, e3, _⟩ := decP_inv _ (parts_nodup _).1 hp
          have hkk : d'.kind = (k.toNat : Int) := e3
          refine ⟨⟨by rw [hkk]; exact hk, by rw [hkk]; exact e2⟩, ?_⟩
          unfold encB
          rw [hkk, Int.toNat_natCast, UInt8.ofNat_toNat, ← List.append_nil (tellsP _ _), ← e1]
end Go.Proofs.YtkdeleafgailhaaGreatDoor
end
