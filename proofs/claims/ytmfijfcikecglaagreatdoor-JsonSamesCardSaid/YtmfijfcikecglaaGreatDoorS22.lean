/- There and back, plainly: a text that is told in quotes is read as it. There and back, plainly: texts; what clean gives is valid. voyageref02.follows, letter: a letter's bytes. There and back, plainly: numbers. A letter's bytes by the decoding; what voyageref02.Clean gives, plainly. -/
import Derived.Test.YtmfijfcikecglaaGreatDoorS16
import Derived.Lib.MapLaws
import Derived.Lib.ValidLaws
import Derived.Test.YtmfijfcikecglaaGreatDoorS8
import Derived.Test.YtmfijfcikecglaaGreatDoorS11
import Derived.Test.YtmfijfcikecglaaGreatDoorS17
section
set_option linter.unusedVariables false
set_option linter.unusedSimpArgs false
namespace Go.Proofs.YtmfijfcikecglaaGreatDoor
open Go Go.RowKit

/-! ### bytes at a place -/
/-- The text s has the bytes q from j on. -/
def Has (s : ByteArray) (j : Nat) (q : List UInt8) : Prop := j + q.length ≤ s.size ∧ ∀ k c, q[k]? = some c → byteAt s (j + k) = c.toNat
theorem Has.nil {s : ByteArray} {j : Nat} (h : j ≤ s.size) : Has s j [] := ⟨by simpa using h, fun k c h => by simp at h⟩
theorem Has.left {s : ByteArray} {j : Nat} {a b : List UInt8} (h : Has s j (a ++ b)) : Has s j a := by
  obtain ⟨h1, h2⟩ := h
  rw [List.length_append] at h1
  refine ⟨by omega, fun k c hk => h2 k c ?_⟩
  rw [List.getElem?_append_left (List.getElem?_eq_some_iff.1 hk).1]
  exact hk
theorem Has.right {s : ByteArray} {j : Nat} {a b : List UInt8} (h : Has s j (a ++ b)) : Has s (j + a.length) b := by
  obtain ⟨h1, h2⟩ := h
  rw [List.length_append] at h1
  refine ⟨by omega, fun k c hk => ?_⟩
  have := h2 (a.length + k) c (by rw [List.getElem?_append_right (by omega), Nat.add_sub_cancel_left]; exact hk)
  rw [← Nat.add_assoc] at this
  exact this
theorem Has.head {s : ByteArray} {j : Nat} {c : UInt8} {q : List UInt8} (h : Has s j (c :: q)) : byteAt s j = c.toNat ∧ j < s.size := by
  obtain ⟨h1, h2⟩ := h
  refine ⟨by simpa using h2 0 c rfl, by simp at h1; omega⟩
theorem Has.tail {s : ByteArray} {j : Nat} {c : UInt8} {q : List UInt8} (h : Has s j (c :: q)) : Has s (j + 1) q := Has.right (a := [c]) h
theorem byteAt_get {s : ByteArray} {j : Nat} (h : j < s.size) : byteAt s j = (s.get! j).toNat := by
  unfold byteAt
  rw [dif_pos h]
  congr 1
  show s.data[j] = s.data[j]!
  rw [getElem!_pos s.data j h]
/-- A whole text has its bytes. -/
theorem Has.all (s : ByteArray) : Has s 0 s.data.toList := by
  refine ⟨by rw [Array.length_toList, Nat.zero_add]; exact Nat.le_refl _, fun k c hk => ?_⟩
  rw [Nat.zero_add]
  rw [Array.getElem?_toList] at hk
  obtain ⟨hl, hc⟩ := Array.getElem?_eq_some_iff.1 hk
  unfold byteAt
  rw [dif_pos (show k < s.size from hl)]
  show (s.data[k]).toNat = _
  rw [hc]
theorem Has.part (s : ByteArray) (j n : Nat) (h : j + n ≤ s.size) : Has s j ((s.data.toList.drop j).take n) := by
  have h0 := Has.all s
  have e : s.data.toList = s.data.toList.take j ++ ((s.data.toList.drop j).take n ++ (s.data.toList.drop j).drop n) := by rw [List.take_append_drop, List.take_append_drop]
  have hj : (s.data.toList.take j).length = j := by rw [List.length_take, Array.length_toList]; have : s.data.size = s.size := rfl; omega
  rw [e] at h0
  have h1 := h0.right.left
  rw [hj, Nat.zero_add] at h1
  exact h1
theorem Has.extract {s : ByteArray} {j : Nat} {q : List UInt8} (h : Has s j q) : s.extract j (j + q.length) = ⟨q.toArray⟩ := by
  have h2 := Has.part s j q.length h.1
  have e : (s.data.toList.drop j).take q.length = q := by
    apply List.ext_getElem?
    intro k
    by_cases hk : k < q.length
    · have hl : k < ((s.data.toList.drop j).take q.length).length := by have h3 := h.1; have h5 : s.data.toList.length = s.size := Array.length_toList; rw [List.length_take, List.length_drop, h5]; omega
      have a := h2.2 k _ (List.getElem?_eq_getElem hl)
      have b := h.2 k _ (List.getElem?_eq_getElem hk)
      rw [List.getElem?_eq_getElem hl, List.getElem?_eq_getElem hk]
      congr 1
      exact UInt8.toNat_inj.1 (a.symm.trans b)
    · rw [List.getElem?_eq_none (by rw [List.length_take]; omega), List.getElem?_eq_none (by omega)]
  apply ByteArray.ext
  apply Array.ext'
  show (s.extract j (j + q.length)).data.toList = q
  rw [← e]
  simp [ByteArray.data_extract, List.extract_eq_take_drop, Nat.add_sub_cancel_left]

/-! ### letters -/
theorem decodeN_same {n m b0 b1 b2 b3 c1 c2 c3 r k : Nat} (h : Lib.decodeN n b0 b1 b2 b3 = (r, k)) (hv : ¬ (r = 65533 ∧ k = 1)) (e1 : 1 < k → c1 = b1) (e2 : 2 < k → c2 = b2) (e3 : 3 < k → c3 = b3) (hm : k ≤ m) : Lib.decodeN m b0 c1 c2 c3 = (r, k) := by
  rcases Lib.decodeN_shape n b0 b1 b2 b3 with ⟨c, e⟩ | ⟨a1, a2, a3, av, e⟩ | ⟨a1, a2, a3, a4, av, ax, e⟩ | ⟨a1, a2, a3, a4, a5, av, aw, e⟩ | e
  all_goals (rw [e] at h; obtain ⟨rfl, rfl⟩ := Prod.mk.inj h)
  · unfold Lib.decodeN; rw [if_pos c]
  · rw [e1 (by omega)]
    unfold Lib.decodeN; rw [if_neg (by omega), if_pos (by omega), if_pos (by omega)]
  · rw [e1 (by omega), e2 (by omega)]
    unfold Lib.decodeN; rw [if_neg (by omega), if_neg (by omega), if_pos (by omega), if_pos (by omega)]
  · rw [e1 (by omega), e2 (by omega), e3 (by omega)]
    unfold Lib.decodeN; rw [if_neg (by omega), if_neg (by omega), if_neg (by omega), if_pos (by omega), if_pos (by omega)]
  · exact absurd ⟨rfl, rfl⟩ hv
theorem decodeN_pos (n b0 b1 b2 b3 : Nat) : 1 ≤ (Lib.decodeN n b0 b1 b2 b3).2 := by
  rcases Lib.decodeN_shape n b0 b1 b2 b3 with ⟨c, e⟩ | ⟨a1, a2, a3, av, e⟩ | ⟨a1, a2, a3, a4, av, ax, e⟩ | ⟨a1, a2, a3, a4, a5, av, aw, e⟩ | e
  all_goals (rw [e]; simp)
theorem get_drop (l : List UInt8) (p k : Nat) : (l.drop p).getD k 0 = l.getD (p + k) 0 := by
  simp [List.getD, List.getElem?_drop]
/-- A letter at a place, copied elsewhere, is read as it. -/
theorem decode_same {l : List UInt8} {s : ByteArray} {j : Nat} (hne : l ≠ []) (hv : ¬ ((Lib.decodeL l).1 = 65533 ∧ (Lib.decodeL l).2 = 1)) (h : Has s j (l.take (Lib.decodeL l).2)) : Utf8.decode s j = Lib.decodeL l := by
  have hl : 0 < l.length := List.length_pos_iff.2 hne
  have hw := Lib.decodeN_width_le l.length (l.getD 0 0).toNat (l.getD 1 0).toNat (l.getD 2 0).toNat (l.getD 3 0).toNat hl
  have hd := Lib.decodeL_N l
  have hp := decodeN_pos l.length (l.getD 0 0).toNat (l.getD 1 0).toNat (l.getD 2 0).toNat (l.getD 3 0).toNat
  rw [hd] at hv h ⊢
  generalize hr : Lib.decodeN l.length (l.getD 0 0).toNat (l.getD 1 0).toNat (l.getD 2 0).toNat (l.getD 3 0).toNat = d at *
  obtain ⟨r, k⟩ := d
  simp only at hv h hw hp
  have hlen : (l.take k).length = k := by rw [List.length_take]; omega
  have hb := h.1
  rw [hlen] at hb
  have hk : ∀ i, i < k → (s.get! (j + i)).toNat = (l.getD i 0).toNat := by
    intro i hi
    have h2 := h.2 i (l.getD i 0) (by rw [List.getElem?_take, if_pos hi, List.getD, List.getElem?_eq_getElem (show i < l.length by omega)]; rfl)
    rw [byteAt_get (by omega)] at h2
    exact h2
  rw [Lib.decode_at]
  have h0 := hk 0 (by omega)
  rw [Nat.add_zero] at h0
  rw [h0]
  exact decodeN_same hr hv (fun h => hk 1 h) (fun h => hk 2 h) (fun h => hk 3 h) (by omega)

/-! ### a text in quotes -/
theorem hex_back : ∀ r : Fin 32, hexL 0 [48, 48, hexd (r.val / 16), hexd (r.val % 16)] = some r.val := by decide +kernel
theorem Has.unit {s : ByteArray} {j r : Nat} (hr : r < 32) (h : Has s j [92, 117, 48, 48, hexd (r / 16), hexd (r % 16)]) : unitAt s j = (r, true) := by
  have h1 := h.1
  simp only [List.length_cons, List.length_nil] at h1
  unfold unitAt
  rw [if_neg (by omega)]
  have e1 := Has.extract (q := [92, 117]) (Has.left (b := [48, 48, hexd (r / 16), hexd (r % 16)]) h)
  have e2 := Has.extract (q := [48, 48, hexd (r / 16), hexd (r % 16)]) (Has.right (a := [92, 117]) h)
  simp only [List.length_cons, List.length_nil, Nat.reduceAdd] at e1 e2
  rw [show j + 2 + 4 = j + 6 by omega] at e2
  rw [e1, if_pos rfl, e2]
  have := hex_back ⟨r, hr⟩
  simp only at this
  show (match hexL 0 [48, 48, hexd (r / 16), hexd (r % 16)] with | some v => (v, true) | none => (0, false)) = _
  rw [this]
/-- A letter as it is told in quotes is read as it. -/
theorem let_back {s : ByteArray} {j r : Nat} {q : List UInt8} (h : Has s j q) (hr : (quoteRune r = q ∧ r < 32) ∨ (r = 34 ∧ q = [92, 34]) ∨ (r = 92 ∧ q = [92, 92])) : byteAt s j ≠ 34 ∧ letAt s j = (r, q.length) ∧ 0 < q.length := by
  have key : ∀ (c : UInt8) (v : Nat) (rest : List UInt8), q = 92 :: c :: rest → shortEsc c.toNat = some v → byteAt s j ≠ 34 ∧ letAt s j = (v, 2) := by
    intro c v rest hq hv
    subst hq
    have h0 := h.head
    have h1 := h.tail.head
    have e0 : byteAt s j = 92 := h0.1
    refine ⟨by omega, ?_⟩
    unfold letAt escAt
    rw [if_neg (by omega), if_pos e0, if_neg (by omega), h1.1, hv]
  rcases hr with ⟨hq, hr⟩ | ⟨rfl, rfl⟩ | ⟨rfl, rfl⟩
  · have hall : r = 8 ∨ r = 9 ∨ r = 10 ∨ r = 12 ∨ r = 13 ∨ (r ≠ 8 ∧ r ≠ 9 ∧ r ≠ 10 ∧ r ≠ 12 ∧ r ≠ 13) := by omega
    rcases hall with rfl | rfl | rfl | rfl | rfl | ⟨n1, n2, n3, n4, n5⟩
    · have hq2 : q = [92, 98] := by rw [← hq]; rfl
      obtain ⟨a, b⟩ := key 98 8 [] hq2 rfl
      subst hq2; exact ⟨a, b, by simp⟩
    · have hq2 : q = [92, 116] := by rw [← hq]; rfl
      obtain ⟨a, b⟩ := key 116 9 [] hq2 rfl
      subst hq2; exact ⟨a, b, by simp⟩
    · have hq2 : q = [92, 110] := by rw [← hq]; rfl
      obtain ⟨a, b⟩ := key 110 10 [] hq2 rfl
      subst hq2; exact ⟨a, b, by simp⟩
    · have hq2 : q = [92, 102] := by rw [← hq]; rfl
      obtain ⟨a, b⟩ := key 102 12 [] hq2 rfl
      subst hq2; exact ⟨a, b, by simp⟩
    · have hq2 : q = [92, 114] := by rw [← hq]; rfl
      obtain ⟨a, b⟩ := key 114 13 [] hq2 rfl
      subst hq2; exact ⟨a, b, by simp⟩
    · have hq2 : q = [92, 117, 48, 48, hexd (r / 16), hexd (r % 16)] := by
        rw [← hq]
        unfold quoteRune
        rw [if_neg (by omega), if_neg (by omega), if_neg n1, if_neg n2, if_neg n3, if_neg n4, if_neg n5, if_pos hr]
      subst hq2
      have hu := Has.unit hr h
      have h0 := h.head
      have h1 := h.tail.head
      have e0 : byteAt s j = 92 := h0.1
      have e1 : byteAt s (j + 1) = 117 := h1.1
      refine ⟨by omega, ?_, by simp⟩
      unfold letAt escAt
      rw [if_neg (by omega), if_pos e0, if_neg (by omega), e1]
      show (if (unitAt s j).2 = false then (0, 0) else if (unitAt s j).1 < 55296 ∨ 57344 ≤ (unitAt s j).1 then ((unitAt s j).1, 6) else _) = _
      rw [hu, if_neg (by simp), if_pos (by simp only; omega)]
      rfl
  · obtain ⟨a, b⟩ := key 34 34 [] rfl rfl
    exact ⟨a, b, by simp⟩
  · obtain ⟨a, b⟩ := key 92 92 [] rfl rfl
    exact ⟨a, b, by simp⟩
end Go.Proofs.YtmfijfcikecglaaGreatDoor
end
section
set_option linter.unusedVariables false
set_option linter.unusedSimpArgs false
namespace Go.Proofs.YtmfijfcikecglaaGreatDoor
open Go Go.RowKit

theorem get_bang (t : ByteArray) (p : Nat) : t.get! p = t.data.toList.getD p 0 := by
  show t.data[p]! = _
  by_cases h : p < t.data.size
  · rw [getElem!_pos t.data p h, List.getD, List.getElem?_eq_getElem (by rw [Array.length_toList]; exact h)]
    simp
  · rw [getElem!_neg t.data p h, List.getD, List.getElem?_eq_none (by rw [Array.length_toList]; omega)]
    rfl
theorem decode_drop (t : ByteArray) (p : Nat) : Utf8.decode t p = Lib.decodeL (t.data.toList.drop p) := by
  rw [Lib.decode_at, Lib.decodeL_N, List.length_drop, Array.length_toList, get_drop, get_drop, get_drop, get_drop, get_bang, get_bang, get_bang, get_bang]
  rfl
theorem encodeRune_len (r : Int) : 1 ≤ (Lib.encodeRune r).length := by
  unfold Lib.encodeRune
  rw [List.length_map]
  exact (Lib.encodeRuneZ_length r).1
/-- The first byte of a letter that is neither small nor told apart. -/
theorem first_byte {l : List UInt8} {b : UInt8} {t : List UInt8} (hl : l = b :: t) (h32 : 32 ≤ (Lib.decodeL l).1) (h34 : (Lib.decodeL l).1 ≠ 34) (h92 : (Lib.decodeL l).1 ≠ 92) : 32 ≤ b.toNat ∧ b.toNat ≠ 34 ∧ b.toNat ≠ 92 := by
  subst hl
  by_cases hb : 128 ≤ b.toNat
  · omega
  · have e : Lib.decodeL (b :: t) = (b.toNat, 1) := by
      rw [Lib.decodeL_N]
      unfold Lib.decodeN
      simp only [List.getD_cons_zero]
      rw [if_pos (by omega)]
    rw [e] at h32 h34 h92
    exact ⟨h32, h34, h92⟩
theorem quoteRune_plain {r : Nat} (h32 : 32 ≤ r) (h34 : r ≠ 34) (h92 : r ≠ 92) : quoteRune r = Lib.encodeRune r := by
  unfold quoteRune
  rw [if_neg h34, if_neg h92, if_neg (by omega), if_neg (by omega), if_neg (by omega), if_neg (by omega), if_neg (by omega), if_neg (by omega)]
theorem quote_back (t : ByteArray) : ∀ (fuel pos : Nat) (s : ByteArray) (j n : Nat), Has s j (quoteFrom t fuel pos ++ [34]) → t.size ≤ pos + fuel → pos ≤ t.size → Lib.validD (t.data.toList.drop pos) = true → s.size < j + n →
    textF s n j (t.data.toList.take pos) = .ok t.data.toList (j + (quoteFrom t fuel pos).length + 1)
  | fuel, pos, s, j, n, h, hf, hp, hv, hn => by
    have hjs := h.1
    rw [List.length_append] at hjs
    simp only [List.length_cons, List.length_nil] at hjs
    obtain ⟨n, rfl⟩ : ∃ m, n = m + 1 := ⟨n - 1, by omega⟩
    by_cases hpos : pos < t.size
    · obtain ⟨fuel, rfl⟩ : ∃ m, fuel = m + 1 := ⟨fuel - 1, by omega⟩
      rw [quoteFrom, if_pos hpos, decode_drop] at h ⊢
      have hlen : (t.data.toList.drop pos).length = t.size - pos := by rw [List.length_drop, Array.length_toList]; rfl
      obtain ⟨b, tl, hl⟩ : ∃ b tl, t.data.toList.drop pos = b :: tl := by
        cases hc : t.data.toList.drop pos with
        | nil => rw [hc] at hlen; simp at hlen; omega
        | cons b tl => exact ⟨b, tl, rfl⟩
      have hne : t.data.toList.drop pos ≠ [] := by rw [hl]; simp
      rw [Lib.validD_step _ hne] at hv
      have hgood : ¬ ((Lib.decodeL (t.data.toList.drop pos)).1 = 65533 ∧ (Lib.decodeL (t.data.toList.drop pos)).2 = 1) := by
        intro hb; rw [if_pos hb] at hv; cases hv
      rw [if_neg hgood] at hv
      have henc := Lib.encode_decode _ hne hgood
      have hw : (Lib.decodeL (t.data.toList.drop pos)).2 ≤ t.size - pos ∧ 1 ≤ (Lib.decodeL (t.data.toList.drop pos)).2 := by
        rw [Lib.decodeL_N, ← hlen]
        have h1 := Lib.decodeN_width_le (t.data.toList.drop pos).length ((t.data.toList.drop pos).getD 0 0).toNat ((t.data.toList.drop pos).getD 1 0).toNat ((t.data.toList.drop pos).getD 2 0).toNat ((t.data.toList.drop pos).getD 3 0).toNat (by omega)
        have h2 := decodeN_pos (t.data.toList.drop pos).length ((t.data.toList.drop pos).getD 0 0).toNat ((t.data.toList.drop pos).getD 1 0).toNat ((t.data.toList.drop pos).getD 2 0).toNat ((t.data.toList.drop pos).getD 3 0).toNat
        omega
      obtain ⟨r, hr⟩ : ∃ r, (Lib.decodeL (t.data.toList.drop pos)).1 = r := ⟨_, rfl⟩
      obtain ⟨k, hk⟩ : ∃ k, (Lib.decodeL (t.data.toList.drop pos)).2 = k := ⟨_, rfl⟩
      rw [hr, hk] at h hgood henc
      rw [hk] at hw hv
      rw [hr, hk]
      rw [List.append_assoc] at h
      have key : byteAt s j ≠ 34 ∧ letAt s j = (r, (quoteRune r).length) ∧ 0 < (quoteRune r).length := by
        by_cases h34 : r = 34
        · exact let_back h.left (.inr (.inl ⟨h34, by subst h34; rfl⟩))
        by_cases h92 : r = 92
        · exact let_back h.left (.inr (.inr ⟨h92, by subst h92; rfl⟩))
        by_cases h32 : r < 32
        · exact let_back h.left (.inl ⟨rfl, h32⟩)
        · have hq := quoteRune_plain (r := r) (by omega) h34 h92
          have hL := h.left
          rw [hq, henc] at hL
          rw [hq, henc]
          have hfb := first_byte hl (by rw [hr]; omega) (by rw [hr]; exact h34) (by rw [hr]; exact h92)
          have hlk : ((t.data.toList.drop pos).take k).length = k := by rw [List.length_take, hlen]; omega
          have hb0 : byteAt s j = b.toNat := by
            have := hL.2 0 b (by rw [List.getElem?_take, if_pos (by omega), hl]; rfl)
            simpa using this
          have hds := decode_same hne (by rw [hr, hk]; exact hgood) (by rw [hk]; exact hL)
          have hjl := hL.1
          rw [hlk] at hjl
          refine ⟨by omega, ?_, by omega⟩
          unfold letAt
          rw [if_neg (by omega), if_neg (by omega), hds, hr, hk, if_neg hgood, hlk]
          exact Prod.ext hr hk
      obtain ⟨k1, k2, k3⟩ := key
      rw [textF, if_neg k1, k2, if_neg (by show ¬ (quoteRune r).length = 0; omega)]
      show textF s n (j + (quoteRune r).length) (t.data.toList.take pos ++ Lib.encodeRune (r : Int)) = _
      have hacc : t.data.toList.take pos ++ Lib.encodeRune (r : Int) = t.data.toList.take (pos + k) := by
        rw [henc, List.take_add]
      rw [hacc]
      have ih := quote_back t fuel (pos + k) s (j + (quoteRune r).length) n h.right (by omega) (by omega) (by rw [← List.drop_drop]; exact hv) (by omega)
      rw [ih, List.length_append]
      congr 1
      omega
    · have hq : quoteFrom t fuel pos = [] := by
        cases fuel with
        | zero => rfl
        | succ m => rw [quoteFrom, if_neg hpos]
      rw [hq] at h ⊢
      have h0 : byteAt s j = 34 := h.head.1
      rw [textF, if_pos h0]
      have htk : t.data.toList.take pos = t.data.toList := List.take_of_length_le (by rw [Array.length_toList]; show t.size ≤ pos; omega)
      rw [htk]
      rfl
/-- **A valid text, told in quotes, is read as it.** -/
theorem text_back {t s : ByteArray} {i : Nat} (hv : Lib.validD t.data.toList = true) (h : Has s i (quoted t)) : textAt s i = .ok t.data.toList (i + (quoted t).length) := by
  unfold quoted at h ⊢
  have := quote_back t t.size 0 s (i + 1) (s.size + 1) h.tail (by omega) (by omega) (by simpa using hv) (by omega)
  unfold textAt
  rw [List.take_zero] at this
  rw [this]
  simp only [List.length_cons, List.length_append, List.length_nil]
  congr 1
  omega

/-! ### clean gives what is valid -/
theorem bytes_nat (z : Int) (h : 0 ≤ z ∧ z < 256) : (z.toNat.toUInt8).toNat = z.toNat := by
  have : z.toNat < 256 := by omega
  simp [Nat.toUInt8, UInt8.toNat_ofNat', Nat.mod_eq_of_lt this]
theorem validD_enc (r : Nat) (h : r < 55296 ∨ (57343 < r ∧ r ≤ 1114111)) (l : List UInt8) : Lib.validD (Lib.encodeRune (r : Int) ++ l) = Lib.validD l := by
  have hne : Lib.encodeRune (r : Int) ++ l ≠ [] := by
    have := encodeRune_len (r : Int)
    intro e
    rw [List.append_eq_nil_iff] at e
    rw [e.1] at this
    simp at this
  have key : Lib.decodeL (Lib.encodeRune (r : Int) ++ l) = (r, (Lib.encodeRune (r : Int)).length) ∧ ¬ (r = 65533 ∧ (Lib.encodeRune (r : Int)).length = 1) := by
    unfold Lib.encodeRune
    by_cases h1 : r ≤ 127
    · rw [Lib.encodeRuneZ_one (by omega) (by omega)]
      refine ⟨?_, by omega⟩
      rw [Lib.decodeL_N]
      simp only [List.map_cons, List.map_nil, List.cons_append, List.nil_append, List.getD_cons_zero]
      rw [bytes_nat _ (by omega)]
      unfold Lib.decodeN
      rw [if_pos (by omega)]
      simp
    by_cases h2 : r ≤ 2047
    · rw [Lib.encodeRuneZ_two (by omega) (by omega)]
      refine ⟨?_, by simp⟩
      rw [Lib.decodeL_N]
      simp only [List.map_cons, List.map_nil, List.cons_append, List.nil_append, List.getD_cons_zero, List.getD_cons_succ, List.length_cons, List.length_append, List.length_nil]
      rw [bytes_nat _ (by omega), bytes_nat _ (by omega)]
      unfold Lib.decodeN
      rw [if_neg (by omega), if_pos (by omega), if_pos (by omega)]
      apply Prod.ext <;> simp only <;> omega
    by_cases h3 : r ≤ 65535
    · rw [Lib.encodeRuneZ_three (by omega)]
      refine ⟨?_, by simp⟩
      rw [Lib.decodeL_N]
      simp only [List.map_cons, List.map_nil, List.cons_append, List.nil_append, List.getD_cons_zero, List.getD_cons_succ, List.length_cons, List.length_append, List.length_nil]
      rw [bytes_nat _ (by omega), bytes_nat _ (by omega), bytes_nat _ (by omega)]
      unfold Lib.decodeN
      rw [if_neg (by omega), if_neg (by omega), if_pos (by omega), if_pos (by omega)]
      apply Prod.ext <;> simp only <;> omega
    · rw [Lib.encodeRuneZ_four (by omega) (by omega)]
      refine ⟨?_, by simp⟩
      rw [Lib.decodeL_N]
      simp only [List.map_cons, List.map_nil, List.cons_append, List.nil_append, List.getD_cons_zero, List.getD_cons_succ, List.length_cons, List.length_append, List.length_nil]
      rw [bytes_nat _ (by omega), bytes_nat _ (by omega), bytes_nat _ (by omega), bytes_nat _ (by omega)]
      unfold Lib.decodeN
      rw [if_neg (by omega), if_neg (by omega), if_neg (by omega), if_pos (by omega), if_pos (by omega)]
      apply Prod.ext <;> simp only <;> omega
  rw [Lib.validD_step _ hne, key.1, if_neg key.2, List.drop_left]
theorem cleanFrom_valid (s : ByteArray) : ∀ (fuel pos : Nat), Lib.validD (cleanFrom s fuel pos) = true
  | 0, pos => rfl
  | fuel + 1, pos => by
    rw [cleanFrom]
    split
    · rw [decode_drop, Lib.decodeL_N]
      rw [validD_enc]
      · exact cleanFrom_valid s fuel _
      · rcases Lib.decodeN_shape (s.data.toList.drop pos).length ((s.data.toList.drop pos).getD 0 0).toNat ((s.data.toList.drop pos).getD 1 0).toNat ((s.data.toList.drop pos).getD 2 0).toNat ((s.data.toList.drop pos).getD 3 0).toNat with ⟨c, e⟩ | ⟨a1, a2, a3, av, e⟩ | ⟨a1, a2, a3, a4, av, ax, e⟩ | ⟨a1, a2, a3, a4, a5, av, aw, e⟩ | e
        all_goals (rw [e]; simp only; omega)
    · rfl
theorem clean_valid (s : ByteArray) : Lib.validD (clean s).data.toList = true := by
  unfold clean
  split
  · assumption
  · exact cleanFrom_valid s _ _
theorem clean_of_valid {s : ByteArray} (h : Lib.validD s.data.toList = true) : clean s = s := by
  unfold clean
  rw [if_pos h]
end Go.Proofs.YtmfijfcikecglaaGreatDoor
end
section
set_option linter.unusedVariables false
set_option linter.unusedSimpArgs false
namespace Go.Proofs.YtmfijfcikecglaaGreatDoor
open Go Go.RowKit Go.Proofs.YtmfijfcikecglaaGreatDoorW.PrintWords

def foll (s : ByteArray) (i lo hi : Nat) : Bool := decide (i < s.size) && (decide (lo ≤ byteAt s i) && decide (byteAt s i ≤ hi))
def letLo (c : Nat) : Nat := if c = 224 then 160 else if c = 240 then 144 else 128
def letHi (c : Nat) : Nat := if c = 237 then 159 else if c = 244 then 143 else 191
/-- How many bytes the letter at a place has; 0: none begins there. -/
def letterN (s : ByteArray) (i : Nat) : Nat :=
  if byteAt s i < 128 then 1
  else if byteAt s i < 194 ∨ 244 < byteAt s i then 0
  else if byteAt s i < 224 ∧ foll s (i + 1) (letLo (byteAt s i)) (letHi (byteAt s i)) = true then 2
  else if 224 ≤ byteAt s i ∧ byteAt s i < 240 ∧ foll s (i + 1) (letLo (byteAt s i)) (letHi (byteAt s i)) = true ∧ foll s (i + 2) 128 191 = true then 3
  else if 240 ≤ byteAt s i ∧ foll s (i + 1) (letLo (byteAt s i)) (letHi (byteAt s i)) = true ∧ foll s (i + 2) 128 191 = true ∧ foll s (i + 3) 128 191 = true then 4
  else 0

set_option maxRecDepth 100000 in
set_option maxHeartbeats 4000000 in
theorem follows_any (s : ByteArray) (i lo hi : Nat) (w : World) (hs : s.size ≤ 9223372036854775807) :
    Calls Tryz.prog 96 #[.string s, .int .i64 i, .int .u8 lo, .int .u8 hi] w fun e w' => e = .returned (.bool (foll s i lo hi)) ∧ w' = w := by
  unfold foll
  by_cases h : i < s.size
  · have h1 : (i : Int) < (s.size : Int) := by omega
    have hb : (s[i]'h).toNat = byteAt s i := by unfold byteAt; rw [dif_pos h]
    have hd : decide (i < s.size) = true := decide_eq_true h
    rw [hd, Bool.true_and]
    by_cases h2 : lo ≤ byteAt s i
    · have h3 : (lo : Int) ≤ ((s[i]'h).toNat : Int) := by omega
      rw [decide_eq_true h2, Bool.true_and]
      go_enter Tryz.func96, Tryz.ntmps96
      go_wp2_with fail
      go_ret
      refine ⟨?_, rfl⟩
      simp [hb]
    · have h3 : ¬ (lo : Int) ≤ ((s[i]'h).toNat : Int) := by omega
      rw [decide_eq_false h2, Bool.false_and]
      go_enter Tryz.func96, Tryz.ntmps96
      go_wp2_with fail
      go_ret
      exact ⟨rfl, rfl⟩
  · have h1 : ¬ (i : Int) < (s.size : Int) := by omega
    rw [decide_eq_false h, Bool.false_and]
    go_enter Tryz.func96, Tryz.ntmps96
    go_wp2_with fail
    go_ret
    exact ⟨rfl, rfl⟩

set_option maxRecDepth 100000 in
set_option maxHeartbeats 8000000 in
theorem letter_any (s : ByteArray) (i : Nat) (w : World) (hs : s.size ≤ 4611686018427387904) (hi : i < s.size) :
    Calls Tryz.prog 70 #[.string s, .int .i64 i] w fun e w' => e = .returned (.int .i64 (letterN s i)) ∧ w' = w := by
  have hb : (s[i]'hi).toNat = byteAt s i := by unfold byteAt; rw [dif_pos hi]
  have hi2 : (i : Int) < (s.size : Int) := by omega
  have cF := fun (j lo hi : Nat) (W : World) => follows_any s j lo hi W (by omega)
  unfold letterN
  generalize hc : byteAt s i = c at *
  by_cases h1 : c < 128
  · rw [if_pos h1]
    have b1 : (c : Int) < 128 := by omega
    go_enter Tryz.func70, Tryz.ntmps70
    go_wp2_with fail
    go_ret
    exact ⟨rfl, rfl⟩
  rw [if_neg h1]
  have b1 : ¬ (c : Int) < 128 := by omega
  by_cases h2 : c < 194 ∨ 244 < c
  · rw [if_pos h2]
    have b2 : (c : Int) < 194 ∨ (¬ (c : Int) < 194 ∧ (244 : Int) < (c : Int)) := by omega
    rcases b2 with b2 | ⟨b2, b3⟩
    all_goals go_enter Tryz.func70, Tryz.ntmps70
    all_goals go_wp2_with fail
    all_goals go_ret
    all_goals exact ⟨rfl, rfl⟩
  rw [if_neg h2]
  have b2 : ¬ (c : Int) < 194 := by omega
  have b3 : ¬ (244 : Int) < (c : Int) := by omega
  have c2 := cF (i + 1) (letLo c) (letHi c)
  have c3 := cF (i + 2) 128 191
  have c4 := cF (i + 3) 128 191
  rw [show (((i + 1 : Nat) : Int)) = (i : Int) + 1 by omega] at c2
  rw [show (((i + 2 : Nat) : Int)) = (i : Int) + 2 by omega] at c3
  rw [show (((i + 3 : Nat) : Int)) = (i : Int) + 3 by omega] at c4
  have hcase : (c < 224) ∨ (c = 224) ∨ ((225 ≤ c ∧ c < 237) ∨ (238 ≤ c ∧ c < 240)) ∨ (c = 237) ∨ (c = 240) ∨ (241 ≤ c ∧ c < 244) ∨ (c = 244) := by omega
  generalize foll s (i + 1) (letLo c) (letHi c) = f2 at *
  generalize foll s (i + 2) 128 191 = f3 at *
  generalize foll s (i + 3) 128 191 = f4 at *
  rcases hcase with h | h | h | h | h | h | h
  · have l1 : letLo c = 128 := by unfold letLo; rw [if_neg (by omega), if_neg (by omega)]
    have l2 : letHi c = 191 := by unfold letHi; rw [if_neg (by omega), if_neg (by omega)]
    rw [l1, l2] at c2
    have e224 : ((c : Int) == 224) = false := by simp; omega
    have e237 : ((c : Int) == 237) = false := by simp; omega
    have e240 : ((c : Int) == 240) = false := by simp; omega
    have e244 : ((c : Int) == 244) = false := by simp; omega
    have g1 : (c : Int) < 224 := by omega
    have g2 : ¬ (224 : Int) ≤ (c : Int) := by omega
    have g3 : ¬ (240 : Int) ≤ (c : Int) := by omega
    cases f2 <;> cases f3 <;> cases f4
    all_goals go_enter Tryz.func70, Tryz.ntmps70
    all_goals go_wp2_with (first | (go_at_call 96; have k4 := k3; refine (c4 _).mono ?_; rintro e w' ⟨rfl, rfl⟩) | (go_at_call 96; have k3 := k2; refine (c3 _).mono ?_; rintro e w' ⟨rfl, rfl⟩) | (go_at_call 96; have k2 := trivial; refine (c2 _).mono ?_; rintro e w' ⟨rfl, rfl⟩))
    all_goals go_ret
    all_goals (refine ⟨?_, rfl⟩; congr 2 <;> (try simp) <;> (try omega))
  · have l1 : letLo c = 160 := by unfold letLo; rw [if_pos h]
    have l2 : letHi c = 191 := by unfold letHi; rw [if_neg (by omega), if_neg (by omega)]
    rw [l1, l2] at c2
    subst h
    cases f2 <;> cases f3 <;> cases f4
    all_goals go_enter Tryz.func70, Tryz.ntmps70
    all_goals go_wp2_with (first | (go_at_call 96; have k4 := k3; refine (c4 _).mono ?_; rintro e w' ⟨rfl, rfl⟩) | (go_at_call 96; have k3 := k2; refine (c3 _).mono ?_; rintro e w' ⟨rfl, rfl⟩) | (go_at_call 96; have k2 := trivial; refine (c2 _).mono ?_; rintro e w' ⟨rfl, rfl⟩))
    all_goals go_ret
    all_goals (refine ⟨?_, rfl⟩; congr 2 <;> (try simp) <;> (try omega))
  · have l1 : letLo c = 128 := by unfold letLo; rw [if_neg (by omega), if_neg (by omega)]
    have l2 : letHi c = 191 := by unfold letHi; rw [if_neg (by omega), if_neg (by omega)]
    rw [l1, l2] at c2
    have e224 : ((c : Int) == 224) = false := by simp; omega
    have e237 : ((c : Int) == 237) = false := by simp; omega
    have e240 : ((c : Int) == 240) = false := by simp; omega
    have e244 : ((c : Int) == 244) = false := by simp; omega
    have g1 : ¬ (c : Int) < 224 := by omega
    have g2 : (224 : Int) ≤ (c : Int) := by omega
    have g3 : (c : Int) < 240 := by omega
    have g4 : ¬ (240 : Int) ≤ (c : Int) := by omega
    cases f2 <;> cases f3 <;> cases f4
    all_goals go_enter Tryz.func70, Tryz.ntmps70
    all_goals go_wp2_with (first | (go_at_call 96; have k4 := k3; refine (c4 _).mono ?_; rintro e w' ⟨rfl, rfl⟩) | (go_at_call 96; have k3 := k2; refine (c3 _).mono ?_; rintro e w' ⟨rfl, rfl⟩) | (go_at_call 96; have k2 := trivial; refine (c2 _).mono ?_; rintro e w' ⟨rfl, rfl⟩))
    all_goals go_ret
    all_goals (refine ⟨?_, rfl⟩; congr 2 <;> (try simp) <;> (try omega))
  · have l1 : letLo c = 128 := by unfold letLo; rw [if_neg (by omega), if_neg (by omega)]
    have l2 : letHi c = 159 := by unfold letHi; rw [if_pos h]
    rw [l1, l2] at c2
    subst h
    cases f2 <;> cases f3 <;> cases f4
    all_goals go_enter Tryz.func70, Tryz.ntmps70
    all_goals go_wp2_with (first | (go_at_call 96; have k4 := k3; refine (c4 _).mono ?_; rintro e w' ⟨rfl, rfl⟩) | (go_at_call 96; have k3 := k2; refine (c3 _).mono ?_; rintro e w' ⟨rfl, rfl⟩) | (go_at_call 96; have k2 := trivial; refine (c2 _).mono ?_; rintro e w' ⟨rfl, rfl⟩))
    all_goals go_ret
    all_goals (refine ⟨?_, rfl⟩; congr 2 <;> (try simp) <;> (try omega))
  · have l1 : letLo c = 144 := by unfold letLo; rw [if_neg (by omega), if_pos h]
    have l2 : letHi c = 191 := by unfold letHi; rw [if_neg (by omega), if_neg (by omega)]
    rw [l1, l2] at c2
    subst h
    cases f2 <;> cases f3 <;> cases f4
    all_goals go_enter Tryz.func70, Tryz.ntmps70
    all_goals go_wp2_with (first | (go_at_call 96; have k4 := k3; refine (c4 _).mono ?_; rintro e w' ⟨rfl, rfl⟩) | (go_at_call 96; have k3 := k2; refine (c3 _).mono ?_; rintro e w' ⟨rfl, rfl⟩) | (go_at_call 96; have k2 := trivial; refine (c2 _).mono ?_; rintro e w' ⟨rfl, rfl⟩))
    all_goals go_ret
    all_goals (refine ⟨?_, rfl⟩; congr 2 <;> (try simp) <;> (try omega))
  · have l1 : letLo c = 128 := by unfold letLo; rw [if_neg (by omega), if_neg (by omega)]
    have l2 : letHi c = 191 := by unfold letHi; rw [if_neg (by omega), if_neg (by omega)]
    rw [l1, l2] at c2
    have e224 : ((c : Int) == 224) = false := by simp; omega
    have e237 : ((c : Int) == 237) = false := by simp; omega
    have e240 : ((c : Int) == 240) = false := by simp; omega
    have e244 : ((c : Int) == 244) = false := by simp; omega
    have g1 : ¬ (c : Int) < 224 := by omega
    have g2 : (224 : Int) ≤ (c : Int) := by omega
    have g3 : ¬ (c : Int) < 240 := by omega
    have g4 : (240 : Int) ≤ (c : Int) := by omega
    cases f2 <;> cases f3 <;> cases f4
    all_goals go_enter Tryz.func70, Tryz.ntmps70
    all_goals go_wp2_with (first | (go_at_call 96; have k4 := k3; refine (c4 _).mono ?_; rintro e w' ⟨rfl, rfl⟩) | (go_at_call 96; have k3 := k2; refine (c3 _).mono ?_; rintro e w' ⟨rfl, rfl⟩) | (go_at_call 96; have k2 := trivial; refine (c2 _).mono ?_; rintro e w' ⟨rfl, rfl⟩))
    all_goals go_ret
    all_goals (refine ⟨?_, rfl⟩; congr 2 <;> (try simp) <;> (try omega))
  · have l1 : letLo c = 128 := by unfold letLo; rw [if_neg (by omega), if_neg (by omega)]
    have l2 : letHi c = 143 := by unfold letHi; rw [if_neg (by omega), if_pos h]
    rw [l1, l2] at c2
    subst h
    cases f2 <;> cases f3 <;> cases f4
    all_goals go_enter Tryz.func70, Tryz.ntmps70
    all_goals go_wp2_with (first | (go_at_call 96; have k4 := k3; refine (c4 _).mono ?_; rintro e w' ⟨rfl, rfl⟩) | (go_at_call 96; have k3 := k2; refine (c3 _).mono ?_; rintro e w' ⟨rfl, rfl⟩) | (go_at_call 96; have k2 := trivial; refine (c2 _).mono ?_; rintro e w' ⟨rfl, rfl⟩))
    all_goals go_ret
    all_goals (refine ⟨?_, rfl⟩; congr 2 <;> (try simp) <;> (try omega))
end Go.Proofs.YtmfijfcikecglaaGreatDoor
end
section
set_option linter.unusedVariables false
set_option linter.unusedSimpArgs false
namespace Go.Proofs.YtmfijfcikecglaaGreatDoor
open Go Go.RowKit

/-! ### the one form of numbers -/
/-- A number in its one form. -/
def NumN (neg : Bool) (ds : ByteArray) (ex : Int) : Prop :=
  (neg = false ∧ ds = ⟨#[]⟩ ∧ ex = 0) ∨
  ((∀ c ∈ ds.data.toList, 48 ≤ c.toNat ∧ c.toNat ≤ 57) ∧ (∃ c q, ds.data.toList = c :: q ∧ c ≠ 48) ∧ (∃ c q, ds.data.toList.reverse = c :: q ∧ c ≠ 48) ∧ -9999 ≤ ex ∧ ex ≤ 9999)
theorem dropWhile_head {α : Type} (p : α → Bool) : ∀ (l : List α), l.dropWhile p = [] ∨ ∃ c q, l.dropWhile p = c :: q ∧ p c = false
  | [] => .inl rfl
  | a :: l => by
    rw [List.dropWhile_cons]
    cases h : p a with
    | true => exact dropWhile_head p l
    | false => exact .inr ⟨a, l, rfl, h⟩
theorem dropWhile_nil {α : Type} (p : α → Bool) : ∀ (l : List α), l.dropWhile p = [] → ∀ x ∈ l, p x = true
  | [], _, x, hx => by cases hx
  | a :: l, h, x, hx => by
    rw [List.dropWhile_cons] at h
    cases ha : p a with
    | true =>
      rw [ha] at h
      rcases List.mem_cons.1 hx with rfl | hx
      · exact ha
      · exact dropWhile_nil p l h x hx
    | false => rw [ha] at h; cases h
theorem beq48 (c : UInt8) : (c == 48) = false ↔ c ≠ 48 := by simp
theorem numN_form (neg : Bool) (ds : ByteArray) (ex : Int) : NumN (decForm neg ds ex).1.neg (decForm neg ds ex).1.digits (decForm neg ds ex).1.exp := by
  have hb := (decForm_bounds neg ds ex).2
  unfold decForm at hb ⊢
  split
  · exact .inl ⟨rfl, rfl, rfl⟩
  · rename_i h0
    split
    · exact .inl ⟨rfl, rfl, rfl⟩
    · split
      · exact .inl ⟨rfl, rfl, rfl⟩
      · rename_i h1 h2
        rw [if_neg h0, if_neg h1, if_neg h2] at hb
        refine .inr ?_
        show (∀ c ∈ (decShort (decBare ds)).data.toList, 48 ≤ c.toNat ∧ c.toNat ≤ 57) ∧ (∃ c q, (decShort (decBare ds)).data.toList = c :: q ∧ c ≠ 48) ∧ (∃ c q, (decShort (decBare ds)).data.toList.reverse = c :: q ∧ c ≠ 48) ∧ _
        have hB : (decBare ds).data.toList = (ds.data.toList.filter isDigitB).dropWhile (· == 48) := by rw [decBare_eq]
        have hS : (decShort (decBare ds)).data.toList = ((decBare ds).data.toList.reverse.dropWhile (· == 48)).reverse := by unfold decShort Lib.trimRightB; rfl
        have hdig : ∀ c ∈ (decBare ds).data.toList, 48 ≤ c.toNat ∧ c.toNat ≤ 57 := by
          intro c hc
          rw [hB] at hc
          have := (List.mem_filter.1 ((List.dropWhile_sublist _).subset hc)).2
          unfold isDigitB at this
          simp only [Bool.and_eq_true, decide_eq_true_eq] at this
          exact this
        have hne : (decBare ds).data.toList ≠ [] := by
          intro e
          apply h0
          have : (decBare ds).data.toList.length = (decBare ds).size := Array.length_toList
          rw [e] at this
          exact this.symm
        obtain ⟨c0, q0, e0, hc0⟩ : ∃ c q, (decBare ds).data.toList = c :: q ∧ c ≠ 48 := by
          rcases dropWhile_head (fun b : UInt8 => b == 48) (ds.data.toList.filter isDigitB) with h | ⟨c, q, h, hc⟩
          · rw [hB] at hne; exact absurd h hne
          · exact ⟨c, q, by rw [hB]; exact h, (beq48 c).1 hc⟩
        have hlast : ∃ c q, (decBare ds).data.toList.reverse.dropWhile (· == 48) = c :: q ∧ c ≠ 48 := by
          rcases dropWhile_head (fun b : UInt8 => b == 48) (decBare ds).data.toList.reverse with h | ⟨c, q, h, hc⟩
          · exfalso
            have : ∀ x ∈ (decBare ds).data.toList.reverse, (x == 48) = true := by
              intro x hx
              exact dropWhile_nil _ _ h x hx
            have h2 := this c0 (by rw [List.mem_reverse, e0]; exact .head _)
            exact hc0 (by simpa using h2)
          · exact ⟨c, q, h, (beq48 c).1 hc⟩
        refine ⟨?_, ?_, ?_, hb⟩
        · intro c hc
          rw [hS, List.mem_reverse] at hc
          exact hdig c (List.mem_reverse.1 ((List.dropWhile_sublist _).subset hc))
        · obtain ⟨c, q, e, hc⟩ := hlast
          obtain ⟨r, hr⟩ : ∃ r, r ++ (decBare ds).data.toList.reverse.dropWhile (· == 48) = (decBare ds).data.toList.reverse := (List.dropWhile_suffix _)
          have h3 : (decShort (decBare ds)).data.toList ++ r.reverse = c0 :: q0 := by
            rw [hS, ← e0, ← List.reverse_append, hr, List.reverse_reverse]
          cases hd : (decShort (decBare ds)).data.toList with
          | nil => rw [hS, e] at hd; simp at hd
          | cons a b =>
            rw [hd] at h3
            injection h3 with h4 h5
            subst h4
            exact ⟨a, b, rfl, hc0⟩
        · obtain ⟨c, q, e, hc⟩ := hlast
          exact ⟨c, q, by rw [hS, List.reverse_reverse]; exact e, hc⟩
theorem numN_bare {ds : ByteArray} (hd : ∀ c ∈ ds.data.toList, 48 ≤ c.toNat ∧ c.toNat ≤ 57) (h : ∃ c q, ds.data.toList = c :: q ∧ c ≠ 48) : decBare ds = ds := by
  rw [decBare_eq]
  have e1 : ds.data.toList.filter isDigitB = ds.data.toList := List.filter_eq_self.2 (fun c hc => by unfold isDigitB; simp [hd c hc])
  rw [e1]
  obtain ⟨c, q, e, hc⟩ := h
  have e2 : ds.data.toList.dropWhile (· == 48) = ds.data.toList := by rw [e, List.dropWhile_cons, (beq48 c).2 hc]; rfl
  rw [e2]
theorem numN_short {ds : ByteArray} (h : ∃ c q, ds.data.toList.reverse = c :: q ∧ c ≠ 48) : decShort ds = ds := by
  unfold decShort Lib.trimRightB
  obtain ⟨c, q, e, hc⟩ := h
  have e2 : ds.data.toList.reverse.dropWhile (· == 48) = ds.data.toList.reverse := by rw [e, List.dropWhile_cons, (beq48 c).2 hc]; rfl
  rw [e2, List.reverse_reverse]
theorem form_numN {neg : Bool} {ds : ByteArray} {ex : Int} (h : NumN neg ds ex) : decForm neg ds ex = (⟨neg, ds, ex⟩, true) := by
  rcases h with ⟨rfl, rfl, rfl⟩ | ⟨h1, h2, h3, h4, h5⟩
  · rfl
  · unfold decForm
    rw [numN_bare h1 h2]
    have hz : decDrop ds = 0 := by unfold decDrop; rw [numN_short h3]; omega
    have hne : ds.size ≠ 0 := by
      obtain ⟨c, q, e, _⟩ := h2
      have : ds.data.toList.length = ds.size := Array.length_toList
      rw [e] at this
      simp at this
      omega
    rw [if_neg hne, hz, if_neg (by omega), if_neg (by omega), numN_short h3]
    simp
/-- What a number in its one form is told as. -/
theorem text_numN {neg : Bool} {ds : ByteArray} {ex : Int} (h : NumN neg ds ex) : decText neg ds ex = if ds.size = 0 then [48] else (if neg = true then [45] else []) ++ ds.data.toList ++ (if ex = 0 then [] else 101 :: Lib.itoa ex) := by
  unfold decText decNorm
  rw [form_numN h]

/-! ### digits are read -/
theorem nFst_run (s : ByteArray) (neg : Bool) : ∀ (q : List UInt8) (c : UInt8) (n i : Nat) (bs : List Int), Has s i (c :: q) → (∀ x ∈ q, 48 ≤ x.toNat ∧ x.toNat ≤ 57) → isDg (byteAt s (i + 1 + q.length)) = false → q.length < n →
    nFst s n i neg bs = nBeh s (i + 1 + q.length) neg (bs ++ (c :: q).map (fun x => (x.toNat : Int)))
  | [], c, n + 1, i, bs, h, hd, he, hn => by
    rw [nFst]
    simp only [List.length_nil, Nat.add_zero] at he ⊢
    rw [if_neg (by rw [he]; simp), h.head.1]
    rfl
  | c2 :: q, c, n + 1, i, bs, h, hd, he, hn => by
    rw [nFst]
    have h2 := h.tail.head.1
    have hd2 := hd c2 (.head _)
    rw [if_pos (by rw [h2]; unfold isDg; simp [hd2]), h.head.1]
    simp only [List.length_cons] at he hn ⊢
    rw [nFst_run s neg q c2 n (i + 1) _ h.tail (fun x hx => hd x (.tail _ hx)) (by rw [show i + 1 + 1 + q.length = i + 1 + (q.length + 1) by omega]; exact he) (by omega)]
    rw [show i + 1 + 1 + q.length = i + 1 + (q.length + 1) by omega]
    congr 1
    simp
def foldD (tens : Int) (q : List UInt8) : Int := q.foldl (fun a c => nFar (10 * a + ((c.toNat : Int) - 48))) tens
theorem nDig_run (s : ByteArray) (neg : Bool) (bs : List Int) (exp sign : Int) : ∀ (q : List UInt8) (c : UInt8) (n i : Nat) (tens : Int), Has s i (c :: q) → (∀ x ∈ q, 48 ≤ x.toNat ∧ x.toNat ≤ 57) → isDg (byteAt s (i + 1 + q.length)) = false → q.length < n →
    nDig s n i neg bs exp sign tens = nEnd s (i + 1 + q.length) neg bs exp sign (foldD tens (c :: q))
  | [], c, n + 1, i, tens, h, hd, he, hn => by
    rw [nDig]
    simp only [List.length_nil, Nat.add_zero] at he ⊢
    rw [if_neg (by rw [he]; simp), h.head.1]
    rfl
  | c2 :: q, c, n + 1, i, tens, h, hd, he, hn => by
    rw [nDig]
    have h2 := h.tail.head.1
    have hd2 := hd c2 (.head _)
    rw [if_pos (by rw [h2]; unfold isDg; simp [hd2]), h.head.1]
    simp only [List.length_cons] at he hn ⊢
    rw [nDig_run s neg bs exp sign q c2 n (i + 1) _ h.tail (fun x hx => hd x (.tail _ hx)) (by rw [show i + 1 + 1 + q.length = i + 1 + (q.length + 1) by omega]; exact he) (by omega)]
    rw [show i + 1 + 1 + q.length = i + 1 + (q.length + 1) by omega]
    rfl
theorem digits_ok2 : ∀ a b : Fin 100, foldD 0 (Lib.decDigits (a.val * 100 + b.val)) = ((a.val * 100 + b.val : Nat) : Int) ∧ (Lib.decDigits (a.val * 100 + b.val)).all isDigitB = true ∧ (Lib.decDigits (a.val * 100 + b.val)).isEmpty = false := by decide +kernel
theorem digits_ok {u : Nat} (hu : u < 10000) : foldD 0 (Lib.decDigits u) = (u : Int) ∧ (∀ c ∈ Lib.decDigits u, 48 ≤ c.toNat ∧ c.toNat ≤ 57) ∧ ∃ c q, Lib.decDigits u = c :: q := by
  have h := digits_ok2 ⟨u / 100, by omega⟩ ⟨u % 100, by omega⟩
  have e : u / 100 * 100 + u % 100 = u := by omega
  simp only [e] at h
  obtain ⟨h1, h2, h3⟩ := h
  refine ⟨h1, fun c hc => ?_, ?_⟩
  · have := List.all_eq_true.1 h2 c hc
    unfold isDigitB at this
    simpa using this
  · cases hd : Lib.decDigits u with
    | nil => rw [hd] at h3; cases h3
    | cons c q => exact ⟨c, q, rfl⟩

/-! ### a numeral is read -/
theorem byteAt_end {s : ByteArray} {i : Nat} (h : s.size ≤ i) : byteAt s i = 0 := by
  unfold byteAt
  rw [dif_neg (by omega)]
/-- What stands behind the digits: the power. -/
theorem nPow_back {s : ByteArray} {i : Nat} {ex : Int} (h0 : -9999 ≤ ex) (h1 : ex ≤ 9999) (h : Has s i (if ex = 0 then [] else 101 :: Lib.itoa ex)) (hend : i + (if ex = 0 then [] else 101 :: Lib.itoa ex : List UInt8).length = s.size) (neg : Bool) (bs : List Int) :
    nPow s i neg bs 0 = some (neg, bs, ex) := by
  by_cases hz : ex = 0
  · rw [if_pos hz] at hend
    simp only [List.length_nil, Nat.add_zero] at hend
    unfold nPow nEnd
    rw [byteAt_end (by omega), if_neg (by omega), if_pos hend, hz]
    rfl
  · rw [if_neg hz] at h hend
    have e0 : byteAt s i = 101 := h.head.1
    unfold nPow
    rw [if_pos (.inl e0)]
    obtain ⟨hf, hd, c, q, hcq⟩ := digits_ok (u := ex.natAbs) (by omega)
    have hc := hd c (by rw [hcq]; exact .head _)
    have key : ∀ (p : Nat) (sign : Int), Has s p (c :: q) → p + (c :: q).length = s.size → nExp s p neg bs 0 sign = some (neg, bs, 0 + sign * ex.natAbs) := by
      intro p sign hp hpe
      simp only [List.length_cons] at hpe
      unfold nExp
      rw [if_pos (by rw [hp.head.1]; unfold isDg; simp [hc])]
      rw [nDig_run s neg bs 0 sign q c (s.size + 1) p 0 hp (fun x hx => hd x (by rw [hcq]; exact .tail _ hx)) (by rw [byteAt_end (by omega)]; rfl) (by omega)]
      unfold nEnd
      rw [if_pos (by omega), ← hcq, hf]
    by_cases hneg : ex < 0
    · have hi : Lib.itoa ex = 45 :: c :: q := by unfold Lib.itoa; rw [if_pos hneg, hcq]
      rw [hi] at h hend
      have e1 : byteAt s (i + 1) = 45 := h.tail.head.1
      rw [if_pos e1, key (i + 2) (-1) h.tail.tail (by simp only [List.length_cons] at hend ⊢; omega)]
      congr 3
      omega
    · have hi : Lib.itoa ex = c :: q := by unfold Lib.itoa; rw [if_neg hneg, ← hcq]; congr 1; omega
      rw [hi] at h hend
      have e1 : byteAt s (i + 1) = c.toNat := h.tail.head.1
      rw [if_neg (by omega), if_neg (by omega), key (i + 1) 1 h.tail (by simp only [List.length_cons] at hend ⊢; omega)]
      congr 3
      omega
theorem strOf_back (l : List UInt8) : strOfNums (l.map fun x => (x.toNat : Int)) = ⟨l.toArray⟩ := by
  unfold strOfNums
  congr 2
  rw [List.map_map]
  conv => rhs; rw [← List.map_id l]
  apply List.map_congr_left
  intro x _
  simp
theorem numeral_back {neg : Bool} {ds : ByteArray} {ex : Int} (h : NumN neg ds ex) : decParse ⟨(decText neg ds ex).toArray⟩ = .ok ⟨neg, ds, ex⟩ := by
  rw [text_numN h]
  rcases h with ⟨rfl, rfl, rfl⟩ | ⟨h1, h2, h3, h4, h5⟩
  · rfl
  · obtain ⟨c, q, e, hc⟩ := h2
    have hne : ds.size ≠ 0 := by
      have : ds.data.toList.length = ds.size := Array.length_toList
      rw [e] at this
      simp at this
      omega
    rw [if_neg hne]
    generalize hT : (if neg = true then [45] else []) ++ ds.data.toList ++ (if ex = 0 then [] else 101 :: Lib.itoa ex) = T
    generalize hs : (⟨T.toArray⟩ : ByteArray) = s
    have hall : Has s 0 T := by
      have := Has.all s
      have e2 : s.data.toList = T := by rw [← hs]
      rw [e2] at this
      exact this
    have hsz : s.size = T.length := by rw [← hs]; exact size_mk T
    have hc1 := h1 c (by rw [e]; exact .head _)
    have hc48 : c.toNat ≠ 48 := fun h => hc (UInt8.toNat_inj.1 h)
    have key : ∀ i, Has s i (ds.data.toList ++ (if ex = 0 then [] else 101 :: Lib.itoa ex)) → i + (ds.data.toList ++ (if ex = 0 then [] else 101 :: Lib.itoa ex : List UInt8)).length = s.size → nNum s i neg = some (neg, ds.data.toList.map (fun x => (x.toNat : Int)), ex) := by
      intro i hi hl
      rw [List.length_append] at hl
      have hL := hi.left
      have hR := hi.right
      rw [e] at hL
      have b0 : byteAt s i = c.toNat := hL.head.1
      have hlen : ds.data.toList.length = q.length + 1 := by rw [e]; rfl
      have hnd : byteAt s (i + ds.data.toList.length) = 0 ∨ byteAt s (i + ds.data.toList.length) = 101 := by
        by_cases hz : ex = 0
        · rw [if_pos hz] at hl
          exact .inl (byteAt_end (by simp only [List.length_nil] at hl; omega))
        · rw [if_neg hz] at hR
          exact .inr hR.head.1
      unfold nNum
      rw [if_neg (by omega), if_neg (by omega)]
      rw [nFst_run s neg q c (s.size + 1) i [] hL (fun x hx => h1 x (by rw [e]; exact .tail _ hx)) (by rw [show i + 1 + q.length = i + ds.data.toList.length by omega]; rcases hnd with hx | hx <;> rw [hx] <;> rfl) (by omega)]
      rw [show i + 1 + q.length = i + ds.data.toList.length by omega, List.nil_append, ← e]
      unfold nBeh
      rw [if_neg (by omega), nPow_back h4 h5 hR (by omega)]
    have hnum : numeral s = some (neg, ds.data.toList.map (fun x => (x.toNat : Int)), ex) := by
      unfold numeral
      rw [← hT] at hall hsz
      cases neg with
      | true =>
        simp only [if_true] at hall hsz key
        rw [List.append_assoc] at hall hsz
        rw [if_pos (show byteAt s 0 = 45 from hall.head.1)]
        exact key 1 hall.tail (by rw [hsz]; simp only [List.length_append, List.length_cons, List.length_nil]; try omega)
      | false =>
        simp only [Bool.false_eq_true, if_false, List.nil_append] at hall hsz
        have hL := hall.left
        rw [e] at hL
        have b0 : byteAt s 0 = c.toNat := hL.head.1
        rw [if_neg (by omega)]
        exact key 0 hall (by rw [hsz]; try omega)
    unfold decParse
    rw [hnum]
    simp only
    rw [strOf_back, show (⟨ds.data.toList.toArray⟩ : ByteArray) = ds by simp, form_numN (.inr ⟨h1, ⟨c, q, e, hc⟩, h3, h4, h5⟩)]
    rfl

/-! ### a number within a text -/
theorem numTo_run (s : ByteArray) : ∀ (q : List UInt8) (n i : Nat), Has s i q → (∀ c ∈ q, isNum c.toNat = true) → isNum (byteAt s (i + q.length)) = false → q.length < n → numTo s n i = i + q.length
  | [], n + 1, i, h, hq, he, hn => by
    rw [numTo]
    simp only [List.length_nil, Nat.add_zero] at he ⊢
    rw [if_neg (by rw [he]; simp)]
  | c :: q, n + 1, i, h, hq, he, hn => by
    rw [numTo]
    have h0 := h.head
    rw [if_pos ⟨h0.2, by rw [h0.1]; exact hq c (.head _)⟩]
    simp only [List.length_cons] at he hn ⊢
    rw [numTo_run s q n (i + 1) h.tail (fun x hx => hq x (.tail _ hx)) (by rw [show i + 1 + q.length = i + (q.length + 1) by omega]; exact he) (by omega)]
    omega
theorem isNum_digit {n : Nat} (h : 48 ≤ n ∧ n ≤ 57) : isNum n = true := by
  unfold isNum isDg
  simp [h]
theorem text_isNum {neg : Bool} {ds : ByteArray} {ex : Int} (h : NumN neg ds ex) : ∀ c ∈ decText neg ds ex, isNum c.toNat = true := by
  rw [text_numN h]
  rcases h with ⟨rfl, rfl, rfl⟩ | ⟨h1, h2, h3, h4, h5⟩
  · intro c hc
    have : c = 48 := by simpa [ByteArray.size] using hc
    subst this; rfl
  · have hne : ds.size ≠ 0 := by
      obtain ⟨c, q, e, hc⟩ := h2
      have : ds.data.toList.length = ds.size := Array.length_toList
      rw [e] at this
      simp at this
      omega
    rw [if_neg hne]
    intro c hc
    rcases List.mem_append.1 hc with hc | hc
    · rcases List.mem_append.1 hc with hc | hc
      · split at hc
        · have : c = 45 := by simpa using hc
          subst this; rfl
        · cases hc
      · exact isNum_digit (h1 c hc)
    · split at hc
      · cases hc
      · obtain ⟨_, hd, _⟩ := digits_ok (u := ex.natAbs) (by omega)
        rcases List.mem_cons.1 hc with rfl | hc
        · rfl
        · unfold Lib.itoa at hc
          split at hc
          · rcases List.mem_cons.1 hc with rfl | hc
            · rfl
            · exact isNum_digit (hd c hc)
          · rw [show ex.toNat = ex.natAbs by omega] at hc
            exact isNum_digit (hd c hc)
theorem text_first {neg : Bool} {ds : ByteArray} {ex : Int} (h : NumN neg ds ex) : ∃ c q, decText neg ds ex = c :: q ∧ (c.toNat = 45 ∨ (48 ≤ c.toNat ∧ c.toNat ≤ 57)) := by
  rw [text_numN h]
  rcases h with ⟨rfl, rfl, rfl⟩ | ⟨h1, ⟨c, q, e, hc⟩, h3, h4, h5⟩
  · exact ⟨48, [], rfl, by decide⟩
  · have hne : ds.size ≠ 0 := by
      have : ds.data.toList.length = ds.size := Array.length_toList
      rw [e] at this
      simp at this
      omega
    rw [if_neg hne, e]
    cases neg with
    | true => exact ⟨45, _, rfl, .inl rfl⟩
    | false => exact ⟨c, _, rfl, .inr (h1 c (by rw [e]; exact .head _))⟩
/-- **A number in its one form, told, is read as it.** -/
theorem number_back {neg : Bool} {ds : ByteArray} {ex : Int} (h : NumN neg ds ex) {s : ByteArray} {i : Nat} (hs : Has s i (decText neg ds ex)) (he : isNum (byteAt s (i + (decText neg ds ex).length)) = false) :
    numberAt s i = .ok (.mk 2 false neg ds ex ⟨#[]⟩ [] []) (i + (decText neg ds ex).length) := by
  unfold numberAt
  have hle := hs.1
  rw [numTo_run s _ (s.size + 1) i hs (text_isNum h) he (by omega), hs.extract, numeral_back h]
end Go.Proofs.YtmfijfcikecglaaGreatDoor
end
section
set_option linter.unusedVariables false
set_option linter.unusedSimpArgs false
namespace Go.Proofs.YtmfijfcikecglaaGreatDoor
open Go Go.RowKit

theorem byteAt_bang (s : ByteArray) (j : Nat) : byteAt s j = (s.get! j).toNat := by
  by_cases h : j < s.size
  · exact byteAt_get h
  · rw [byteAt_end (by omega)]
    show 0 = (s.data[j]!).toNat
    rw [getElem!_neg s.data j (by show ¬ j < s.size; exact h)]
    rfl
/-- letter, by the bytes. -/
def letterB (n b0 b1 b2 b3 : Nat) : Nat :=
  if b0 < 128 then 1
  else if b0 < 194 ∨ 244 < b0 then 0
  else if b0 < 224 ∧ (1 < n ∧ letLo b0 ≤ b1 ∧ b1 ≤ letHi b0) then 2
  else if 224 ≤ b0 ∧ b0 < 240 ∧ (1 < n ∧ letLo b0 ≤ b1 ∧ b1 ≤ letHi b0) ∧ (2 < n ∧ 128 ≤ b2 ∧ b2 ≤ 191) then 3
  else if 240 ≤ b0 ∧ (1 < n ∧ letLo b0 ≤ b1 ∧ b1 ≤ letHi b0) ∧ (2 < n ∧ 128 ≤ b2 ∧ b2 ≤ 191) ∧ (3 < n ∧ 128 ≤ b3 ∧ b3 ≤ 191) then 4
  else 0
theorem letterN_B (s : ByteArray) (i : Nat) : letterN s i = letterB (s.size - i) (byteAt s i) (byteAt s (i + 1)) (byteAt s (i + 2)) (byteAt s (i + 3)) := by
  have e : ∀ k lo hi, foll s (i + k) lo hi = true ↔ (k < s.size - i ∧ lo ≤ byteAt s (i + k) ∧ byteAt s (i + k) ≤ hi) := by
    intro k lo hi
    unfold foll
    simp only [Bool.and_eq_true, decide_eq_true_eq]
    constructor
    · rintro ⟨a, b, c⟩; exact ⟨by omega, b, c⟩
    · rintro ⟨a, b, c⟩; exact ⟨by omega, b, c⟩
  unfold letterN letterB
  simp only [e]
set_option maxRecDepth 100000 in
set_option maxHeartbeats 4000000 in
theorem letterB_dec (n b0 b1 b2 b3 : Nat) (h0 : b0 < 256) (h1 : b1 < 256) (h2 : b2 < 256) (h3 : b3 < 256) (hn : 0 < n) :
    letterB n b0 b1 b2 b3 = if (Lib.decodeN n b0 b1 b2 b3).1 = 65533 ∧ (Lib.decodeN n b0 b1 b2 b3).2 = 1 then 0 else (Lib.decodeN n b0 b1 b2 b3).2 := by
  have hlo : letLo b0 = 160 ∧ b0 = 224 ∨ letLo b0 = 144 ∧ b0 = 240 ∨ letLo b0 = 128 ∧ b0 ≠ 224 ∧ b0 ≠ 240 := by
    unfold letLo
    split
    · exact .inl ⟨rfl, by assumption⟩
    · split
      · exact .inr (.inl ⟨rfl, by assumption⟩)
      · exact .inr (.inr ⟨rfl, by assumption, by assumption⟩)
  have hhi : letHi b0 = 159 ∧ b0 = 237 ∨ letHi b0 = 143 ∧ b0 = 244 ∨ letHi b0 = 191 ∧ b0 ≠ 237 ∧ b0 ≠ 244 := by
    unfold letHi
    split
    · exact .inl ⟨rfl, by assumption⟩
    · split
      · exact .inr (.inl ⟨rfl, by assumption⟩)
      · exact .inr (.inr ⟨rfl, by assumption, by assumption⟩)
  unfold letterB
  generalize letLo b0 = lo at *
  generalize letHi b0 = hi at *
  rcases Lib.decodeN_shape n b0 b1 b2 b3 with ⟨c, e⟩ | ⟨a1, a2, a3, av, e⟩ | ⟨a1, a2, a3, a4, av, ax, e⟩ | ⟨a1, a2, a3, a4, a5, av, aw, e⟩ | e
  · rw [e, if_pos c, if_neg (by simp only; omega)]
  · rw [e, if_neg (by omega), if_neg (by omega), if_pos (by omega), if_neg (by simp only; omega)]
  · rw [e, if_neg (by omega), if_neg (by omega), if_neg (by omega), if_pos (by omega), if_neg (by simp only; omega)]
  · rw [e, if_neg (by omega), if_neg (by omega), if_neg (by omega), if_neg (by omega), if_pos (by omega), if_neg (by simp only; omega)]
  · have hb := e
    unfold Lib.decodeN at hb
    rw [e]
    show _ = (0 : Nat)
    by_cases k1 : b0 < 128
    · rw [if_pos k1] at hb
      have := congrArg Prod.fst hb
      simp only at this
      omega
    rw [if_neg k1] at hb ⊢
    by_cases k2 : b0 < 194 ∨ 244 < b0
    · rw [if_pos k2]
    rw [if_neg k2]
    by_cases k3 : b0 < 224 ∧ 1 < n ∧ lo ≤ b1 ∧ b1 ≤ hi
    · exfalso
      rw [if_pos (by omega), if_pos (by omega)] at hb
      have := congrArg Prod.snd hb
      simp only at this
      omega
    rw [if_neg k3]
    by_cases k4 : 224 ≤ b0 ∧ b0 < 240 ∧ (1 < n ∧ lo ≤ b1 ∧ b1 ≤ hi) ∧ 2 < n ∧ 128 ≤ b2 ∧ b2 ≤ 191
    · exfalso
      rw [if_neg (by omega), if_pos (by omega), if_pos (by omega)] at hb
      have := congrArg Prod.snd hb
      simp only at this
      omega
    rw [if_neg k4]
    by_cases k5 : 240 ≤ b0 ∧ (1 < n ∧ lo ≤ b1 ∧ b1 ≤ hi) ∧ (2 < n ∧ 128 ≤ b2 ∧ b2 ≤ 191) ∧ 3 < n ∧ 128 ≤ b3 ∧ b3 ≤ 191
    · exfalso
      rw [if_neg (by omega), if_neg (by omega), if_pos (by omega), if_pos (by omega)] at hb
      have := congrArg Prod.snd hb
      simp only at this
      omega
    rw [if_neg k5]
/-- How many bytes a letter has, by the decoding. -/
theorem letterN_dec {s : ByteArray} {i : Nat} (hi : i < s.size) : letterN s i = if (Utf8.decode s i).1 = 65533 ∧ (Utf8.decode s i).2 = 1 then 0 else (Utf8.decode s i).2 := by
  rw [letterN_B, letterB_dec _ _ _ _ _ (byteAt_lt _ _) (byteAt_lt _ _) (byteAt_lt _ _) (byteAt_lt _ _) (by omega), Lib.decode_at, byteAt_bang, byteAt_bang, byteAt_bang, byteAt_bang]

/-! ### Clean -/
/-- What Clean gathers from a place on. -/
theorem cleanFrom_step {s : ByteArray} {pos fuel : Nat} (h : pos < s.size) : cleanFrom s (fuel + 1) pos = (if letterN s pos = 0 then [239, 191, 189] else (s.data.toList.drop pos).take (letterN s pos)) ++ cleanFrom s fuel (pos + (if letterN s pos = 0 then 1 else letterN s pos)) := by
  rw [cleanFrom, if_pos h, letterN_dec h, decode_drop]
  have hlen : (s.data.toList.drop pos).length = s.size - pos := by rw [List.length_drop, Array.length_toList]; rfl
  have hne : s.data.toList.drop pos ≠ [] := by intro e; rw [e] at hlen; simp at hlen; omega
  by_cases hb : (Lib.decodeL (s.data.toList.drop pos)).1 = 65533 ∧ (Lib.decodeL (s.data.toList.drop pos)).2 = 1
  · rw [if_pos hb, if_pos rfl, if_pos rfl, hb.1, hb.2]
    rfl
  · have hp : 1 ≤ (Lib.decodeL (s.data.toList.drop pos)).2 := by rw [Lib.decodeL_N]; exact decodeN_pos _ _ _ _ _
    rw [if_neg hb, if_neg (by omega), if_neg (by omega), Lib.encode_decode _ hne hb]
/-- A valid text is gathered as it is. -/
theorem cleanFrom_of_valid (s : ByteArray) : ∀ (fuel pos : Nat), s.size ≤ pos + fuel → pos ≤ s.size → Lib.validD (s.data.toList.drop pos) = true → cleanFrom s fuel pos = s.data.toList.drop pos
  | fuel, pos, hf, hp, hv => by
    have hlen : (s.data.toList.drop pos).length = s.size - pos := by rw [List.length_drop, Array.length_toList]; rfl
    by_cases h : pos < s.size
    · obtain ⟨fuel, rfl⟩ : ∃ m, fuel = m + 1 := ⟨fuel - 1, by omega⟩
      have hne : s.data.toList.drop pos ≠ [] := by intro e; rw [e] at hlen; simp at hlen; omega
      rw [Lib.validD_step _ hne] at hv
      have hgood : ¬ ((Lib.decodeL (s.data.toList.drop pos)).1 = 65533 ∧ (Lib.decodeL (s.data.toList.drop pos)).2 = 1) := by
        intro hb; rw [if_pos hb] at hv; cases hv
      rw [if_neg hgood] at hv
      have hw : (Lib.decodeL (s.data.toList.drop pos)).2 ≤ s.size - pos ∧ 1 ≤ (Lib.decodeL (s.data.toList.drop pos)).2 := by
        rw [Lib.decodeL_N, ← hlen]
        exact ⟨Lib.decodeN_width_le _ _ _ _ _ (by omega), decodeN_pos _ _ _ _ _⟩
      rw [cleanFrom, if_pos h, decode_drop, Lib.encode_decode _ hne hgood, cleanFrom_of_valid s fuel _ (by omega) (by omega) (by rw [← List.drop_drop]; exact hv), ← List.drop_drop, List.take_append_drop]
    · have e : s.data.toList.drop pos = [] := List.eq_nil_of_length_eq_zero (by omega)
      rw [e]
      cases fuel with
      | zero => rfl
      | succ m => rw [cleanFrom, if_neg h]
theorem clean_eq (s : ByteArray) : clean s = ⟨(cleanFrom s s.size 0).toArray⟩ := by
  unfold clean
  split
  · rename_i h
    rw [cleanFrom_of_valid s s.size 0 (by omega) (by omega) (by simpa using h)]
    simp
  · rfl
end Go.Proofs.YtmfijfcikecglaaGreatDoor
end
