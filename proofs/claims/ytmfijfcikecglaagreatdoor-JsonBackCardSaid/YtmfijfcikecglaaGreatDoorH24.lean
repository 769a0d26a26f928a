/- What JsonGaps's loop makes of a told value is that value told wide: plain. voyagelaw02.pick; a string appended within a region that draws. Where a fault is: within the text: plain. A text that is cut off is at fault: what is read of a beginning is read of the whole: plain. -/
import Derived.Test.YtmfijfcikecglaaGreatDoorH23
import Derived.Test.YtmfijfcikecglaaGreatDoorH22
section
set_option linter.unusedVariables false
set_option linter.unusedSimpArgs false
namespace Go.Proofs.YtmfijfcikecglaaGreatDoor
open Go Go.RowKit

/-- Brackets, commas, colons. -/
def isBrk (c : UInt8) : Bool := c == 91 || c == 93 || c == 123 || c == 125 || c == 44 || c == 58
/-- What the loop makes of the rest of a text, from place i on, within a text or not; at places below n gaps stand ahead (G) and behind (H). -/
def wideF (n : Nat) (G H : Nat → List UInt8) : Bool → List UInt8 → Nat → List UInt8
  | _, [], _ => []
  | true, [c], i => [c]
  | true, c :: d :: r, i => if c = 92 then c :: d :: wideF n G H true r (i + 2) else c :: wideF n G H (!(decide (c = 34))) (d :: r) (i + 1)
  | false, c :: r, i => if c = 34 then c :: wideF n G H true r (i + 1) else (if isBrk c = true ∧ i < n then G i ++ c :: (H i ++ wideF n G H false r (i + 1)) else c :: wideF n G H false r (i + 1))
termination_by _ l _ => l.length

section
variable {n : Nat} {G H : Nat → List UInt8}
theorem wideF_in : ∀ (p r : List UInt8) (i : Nat), (∀ c ∈ p, c ≠ 34 ∧ c ≠ 92) → r ≠ [] → wideF n G H true (p ++ r) i = p ++ wideF n G H true r (i + p.length)
  | [], r, i, _, _ => rfl
  | c :: p, r, i, h, hr => by
    obtain ⟨h1, h2⟩ := h c (.head _)
    obtain ⟨d, q, e⟩ : ∃ d q, p ++ r = d :: q := by
      cases p with
      | nil => cases r with
        | nil => exact absurd rfl hr
        | cons d q => exact ⟨d, q, rfl⟩
      | cons d p => exact ⟨d, _, rfl⟩
    rw [List.cons_append, e, wideF, if_neg h2, ← e]
    rw [show (!(decide (c = 34))) = true by simp [h1], wideF_in p r (i + 1) (fun x hx => h x (.tail _ hx)) hr, List.length_cons, show i + 1 + p.length = i + (p.length + 1) by omega]
    rfl
theorem wideF_esc (d : UInt8) (r : List UInt8) (i : Nat) : wideF n G H true (92 :: d :: r) i = 92 :: d :: wideF n G H true r (i + 2) := by
  rw [wideF, if_pos rfl]
theorem wideF_out : ∀ (p r : List UInt8) (i : Nat), (∀ c ∈ p, c ≠ 34 ∧ isBrk c = false) → wideF n G H false (p ++ r) i = p ++ wideF n G H false r (i + p.length)
  | [], r, i, _ => rfl
  | c :: p, r, i, h => by
    obtain ⟨h1, h2⟩ := h c (.head _)
    rw [List.cons_append, wideF, if_neg h1, if_neg (by rw [h2]; simp), wideF_out p r (i + 1) (fun x hx => h x (.tail _ hx)), List.length_cons, show i + 1 + p.length = i + (p.length + 1) by omega]
    rfl
theorem wideF_open (r : List UInt8) (i : Nat) : wideF n G H false (34 :: r) i = 34 :: wideF n G H true r (i + 1) := by
  rw [wideF, if_pos rfl]
theorem wideF_shut (r : List UInt8) (i : Nat) : wideF n G H true (34 :: r) i = 34 :: wideF n G H false r (i + 1) := by
  cases r with
  | nil => rw [wideF, wideF]
  | cons d r => rw [wideF, if_neg (by decide)]; rfl
/-- The gaps ahead of a bracket at place i, and behind. -/
def gapAt (n : Nat) (G : Nat → List UInt8) (i : Nat) : List UInt8 := if i < n then G i else []
theorem wideF_brk {c : UInt8} (hc : isBrk c = true) (r : List UInt8) (i : Nat) : wideF n G H false (c :: r) i = gapAt n G i ++ c :: (gapAt n H i ++ wideF n G H false r (i + 1)) := by
  have h34 : ¬ c = 34 := by intro e; rw [e] at hc; exact absurd hc (by decide)
  rw [wideF, if_neg h34]
  unfold gapAt
  by_cases hi : i < n
  · rw [if_pos ⟨hc, hi⟩, if_pos hi, if_pos hi]
  · rw [if_neg (by rintro ⟨_, h⟩; exact hi h), if_neg hi, if_neg hi]
    rfl

/-! ### texts -/
theorem enc_high (r : Int) (h34 : r ≠ 34) (h92 : r ≠ 92) : ∀ c ∈ Lib.encodeRune r, c ≠ 34 ∧ c ≠ 92 := by
  intro c hc
  unfold Lib.encodeRune at hc
  obtain ⟨x, hx, rfl⟩ := List.mem_map.1 hc
  have hb := Lib.encodeRuneZ_byte r x hx
  have hn := bytes_nat x hb
  have hx2 : x ≠ 34 ∧ x ≠ 92 := by
    unfold Lib.encodeRuneZ at hx
    split at hx
    · simp at hx; omega
    · split at hx
      · simp at hx; omega
      · split at hx
        · simp at hx; omega
        · split at hx
          · simp at hx; omega
          · simp at hx; omega
  constructor
  · intro e
    rw [e] at hn
    have : (34 : UInt8).toNat = 34 := rfl
    omega
  · intro e
    rw [e] at hn
    have : (92 : UInt8).toNat = 92 := rfl
    omega
theorem hexd_in : ∀ a : Fin 16, hexd a.val ≠ 34 ∧ hexd a.val ≠ 92 := by decide +kernel
theorem enc34 : Lib.encodeRune ((34 : Nat) : Int) = [34] := by decide +kernel
theorem enc92 : Lib.encodeRune ((92 : Nat) : Int) = [92] := by decide +kernel
theorem wideF_rune (r : Nat) (q : List UInt8) (hq : q ≠ []) (i : Nat) : wideF n G H true (quoteRune r ++ q) i = quoteRune r ++ wideF n G H true q (i + (quoteRune r).length) := by
  unfold quoteRune
  split
  · rename_i h; subst h
    rw [enc34]; exact wideF_esc 34 q i
  split
  · rename_i h; subst h
    rw [enc92]; exact wideF_esc 92 q i
  split
  · exact wideF_esc 98 q i
  split
  · exact wideF_esc 116 q i
  split
  · exact wideF_esc 110 q i
  split
  · exact wideF_esc 102 q i
  split
  · exact wideF_esc 114 q i
  split
  · rename_i h
    show wideF n G H true (92 :: 117 :: ([48, 48, hexd (r / 16), hexd (r % 16)] ++ q)) i = 92 :: 117 :: ([48, 48, hexd (r / 16), hexd (r % 16)] ++ wideF n G H true q (i + 6))
    rw [wideF_esc, wideF_in _ q _ ?_ hq]
    · rfl
    · have h1 := hexd_in ⟨r / 16, by omega⟩
      have h2 := hexd_in ⟨r % 16, by omega⟩
      intro c hc
      simp only [List.mem_cons, List.not_mem_nil, or_false] at hc
      rcases hc with rfl | rfl | rfl | rfl
      · decide
      · decide
      · exact h1
      · exact h2
  · rename_i h34 h92 _ _ _ _ _ _
    exact wideF_in _ q i (enc_high r (by omega) (by omega)) hq
theorem wideF_from (t : ByteArray) : ∀ (fuel pos : Nat) (q : List UInt8) (i : Nat), q ≠ [] → wideF n G H true (quoteFrom t fuel pos ++ q) i = quoteFrom t fuel pos ++ wideF n G H true q (i + (quoteFrom t fuel pos).length)
  | 0, pos, q, i, _ => by rw [quoteFrom]; rfl
  | fuel + 1, pos, q, i, hq => by
    rw [quoteFrom]
    split
    · rw [List.append_assoc, wideF_rune _ _ (by simp [hq]), wideF_from t fuel _ q _ hq, List.append_assoc, List.length_append, Nat.add_assoc]
    · rfl
theorem wideF_text (t : ByteArray) (r : List UInt8) (i : Nat) : wideF n G H false (quoted t ++ r) i = quoted t ++ wideF n G H false r (i + (quoted t).length) := by
  unfold quoted
  rw [List.cons_append, wideF_open, List.append_assoc, wideF_from t _ _ _ _ (by simp)]
  show 34 :: (_ ++ wideF n G H true (34 :: r) _) = _
  rw [wideF_shut]
  simp only [List.cons_append, List.append_assoc, List.nil_append, List.length_cons, List.length_append, List.length_nil]
  rw [show i + 1 + (quoteFrom t t.size 0).length + 1 = i + ((quoteFrom t t.size 0).length + (0 + 1) + 1) by omega]

/-! ### values -/
/-- What the loop makes of a value's told form. -/
def Widens (n : Nat) (G H : Nat → List UInt8) (x : JV) : Prop := ∀ (r : List UInt8) (i : Nat), ∃ g q g', Gaps g ∧ Gaps g' ∧ Wide x q ∧ wideF n G H false (x.put ++ r) i = g ++ (q ++ (g' ++ wideF n G H false r (i + x.put.length)))
theorem gaps_nil : Gaps [] := fun _ h => nomatch h
theorem gaps_app {a b : List UInt8} (ha : Gaps a) (hb : Gaps b) : Gaps (a ++ b) := fun c h => (List.mem_append.1 h).elim (ha c) (hb c)
theorem gapAt_gaps {G : Nat → List UInt8} (hG : ∀ i, Gaps (G i)) (i : Nat) : Gaps (gapAt n G i) := by
  unfold gapAt
  split
  · exact hG i
  · exact gaps_nil
theorem widens_list (hG : ∀ i, Gaps (G i)) (hH : ∀ i, Gaps (H i)) : ∀ (xs : List JV), (∀ y ∈ xs, Widens n G H y) → ∀ (r : List UInt8) (i : Nat), ∃ g', Gaps g' ∧ ∀ g, Gaps g → ∃ q, RestL xs q ∧ g ++ wideF n G H false (JV.putL 44 xs ++ (93 :: r)) i = q ++ (g' ++ wideF n G H false r (i + (JV.putL 44 xs).length + 1))
  | [], _, r, i => by
    rw [JV.putL]
    refine ⟨gapAt n H i, gapAt_gaps hH i, fun g hg => ⟨(g ++ gapAt n G i) ++ [93], .nil _ (gaps_app hg (gapAt_gaps hG i)), ?_⟩⟩
    show g ++ wideF n G H false (93 :: r) i = _
    rw [wideF_brk (by decide)]
    simp
  | x :: xs, hy, r, i => by
    rw [JV.putL]
    obtain ⟨g1, q1, g2, h1, h2, h3, h4⟩ := hy x (.head _) (JV.putL 44 xs ++ 93 :: r) (i + 1)
    obtain ⟨g5, h6, h7⟩ := widens_list hG hH xs (fun y hy' => hy y (.tail _ hy')) r (i + 1 + x.put.length)
    obtain ⟨q8, h8, h9⟩ := h7 g2 h2
    refine ⟨g5, h6, fun g hg => ⟨(g ++ gapAt n G i) ++ 44 :: ((gapAt n H i ++ g1) ++ (q1 ++ q8)), .cons _ _ _ _ (gaps_app hg (gapAt_gaps hG i)) (.cons _ _ _ _ _ (gaps_app (gapAt_gaps hH i) h1) h3 h8), ?_⟩⟩
    show g ++ wideF n G H false (44 :: ((x.put ++ JV.putL 44 xs) ++ 93 :: r)) i = _
    rw [wideF_brk (by decide), List.append_assoc, h4, h9]
    simp only [List.length_cons, List.length_append, List.append_assoc, List.cons_append]
    rw [show i + 1 + x.put.length + (JV.putL 44 xs).length + 1 = i + (x.put.length + (JV.putL 44 xs).length + 1) + 1 by omega]
theorem widens_obj (hG : ∀ i, Gaps (G i)) (hH : ∀ i, Gaps (H i)) : ∀ (xs : List JF), (∀ y ∈ xs, Widens n G H y.value) → ∀ (r : List UInt8) (i : Nat), ∃ g', Gaps g' ∧ ∀ g, Gaps g → ∃ q, RestO xs q ∧ g ++ wideF n G H false (JV.putF 44 xs ++ (125 :: r)) i = q ++ (g' ++ wideF n G H false r (i + (JV.putF 44 xs).length + 1))
  | [], _, r, i => by
    rw [JV.putF]
    refine ⟨gapAt n H i, gapAt_gaps hH i, fun g hg => ⟨(g ++ gapAt n G i) ++ [125], .nil _ (gaps_app hg (gapAt_gaps hG i)), ?_⟩⟩
    show g ++ wideF n G H false (125 :: r) i = _
    rw [wideF_brk (by decide)]
    simp
  | .mk nm v :: xs, hy, r, i => by
    rw [JV.putF]
    obtain ⟨g1, q1, g2, h1, h2, h3, h4⟩ := hy (.mk nm v) (.head _) (JV.putF 44 xs ++ 125 :: r) (i + 1 + (quoted nm).length + 1)
    simp only [JF.value] at h3 h4
    obtain ⟨g5, h6, h7⟩ := widens_obj hG hH xs (fun y hy' => hy y (.tail _ hy')) r (i + 1 + (quoted nm).length + 1 + v.put.length)
    obtain ⟨q8, h8, h9⟩ := h7 g2 h2
    refine ⟨g5, h6, fun g hg => ⟨(g ++ gapAt n G i) ++ 44 :: (gapAt n H i ++ (quoted nm ++ (gapAt n G (i + 1 + (quoted nm).length) ++ 58 :: ((gapAt n H (i + 1 + (quoted nm).length) ++ g1) ++ (q1 ++ q8))))), .cons _ _ _ _ (gaps_app hg (gapAt_gaps hG i)) (.cons _ _ _ _ _ _ _ _ (gapAt_gaps hH i) (gapAt_gaps hG _) (gaps_app (gapAt_gaps hH _) h1) h3 h8), ?_⟩⟩
    show g ++ wideF n G H false (44 :: ((quoted nm ++ (58 :: (v.put ++ JV.putF 44 xs))) ++ 125 :: r)) i = _
    rw [wideF_brk (by decide), List.append_assoc, wideF_text, List.cons_append, wideF_brk (by decide), List.append_assoc, h4, h9]
    simp only [List.length_cons, List.length_append, List.append_assoc, List.cons_append]
    rw [show i + 1 + (quoted nm).length + 1 + v.put.length + (JV.putF 44 xs).length + 1 = i + ((quoted nm).length + (v.put.length + (JV.putF 44 xs).length + 1) + 1) + 1 by omega]
theorem num_quiet {neg : Bool} {ds : ByteArray} {ex : Int} (h : NumN neg ds ex) : ∀ c ∈ decText neg ds ex, c ≠ 34 ∧ isBrk c = false := by
  intro c hc
  have := text_isNum h c hc
  have hn : c.toNat = 43 ∨ c.toNat = 45 ∨ c.toNat = 46 ∨ c.toNat = 101 ∨ c.toNat = 69 ∨ (48 ≤ c.toNat ∧ c.toNat ≤ 57) := by
    unfold isNum isDg at this
    simp only [Bool.or_eq_true, beq_iff_eq, Bool.and_eq_true, decide_eq_true_eq] at this
    omega
  have hne : ∀ b : UInt8, (b.toNat = 34 ∨ b.toNat = 91 ∨ b.toNat = 93 ∨ b.toNat = 123 ∨ b.toNat = 125 ∨ b.toNat = 44 ∨ b.toNat = 58) → c ≠ b := by
    intro b hb e
    rw [e] at hn
    omega
  refine ⟨hne 34 (by decide), ?_⟩
  unfold isBrk
  simp [hne 91 (by decide), hne 93 (by decide), hne 123 (by decide), hne 125 (by decide), hne 44 (by decide), hne 58 (by decide)]
theorem widens_flat {x : JV} (h4 : x.kind ≠ 4) (h5 : x.kind ≠ 5) (h : ∀ c ∈ x.put, c ≠ 34 ∧ isBrk c = false) : Widens n G H x := fun r i => ⟨[], x.put, [], gaps_nil, gaps_nil, .one x h4 h5, by rw [wideF_out _ _ _ h]; rfl⟩
theorem widens_step (hG : ∀ i, Gaps (G i)) (hH : ∀ i, Gaps (H i)) (x : JV) (hx : x.isN) (hl : ∀ y ∈ x.list, Widens n G H y) (hf : ∀ f ∈ x.fields, Widens n G H f.value) : Widens n G H x := by
  obtain ⟨k, t, ng, d, e, tx, l, f⟩ := x
  simp only [JV.list, JV.fields] at hl hf
  rw [JV.isN] at hx
  rcases hx with ⟨rfl, rfl, rfl, rfl, rfl, rfl, rfl, rfl⟩ | ⟨rfl, rfl, rfl, rfl, rfl, rfl, rfl⟩ | ⟨rfl, rfl, hN, rfl, rfl, rfl⟩ | ⟨rfl, rfl, rfl, rfl, rfl, hv, rfl, rfl⟩ | ⟨rfl, rfl, rfl, rfl, rfl, rfl, hL, rfl⟩ | ⟨rfl, rfl, rfl, rfl, rfl, rfl, rfl, hF, hr⟩
  · refine widens_flat (by decide) (by decide) ?_
    have hp : (JV.mk 0 false false ⟨#[]⟩ 0 ⟨#[]⟩ [] []).put = [110, 117, 108, 108] := by rw [JV.put]; rfl
    rw [hp]
    decide
  · refine widens_flat (by show (1 : Int) ≠ 4; decide) (by show (1 : Int) ≠ 5; decide) ?_
    cases t with
    | true =>
      have hp : (JV.mk 1 true false ⟨#[]⟩ 0 ⟨#[]⟩ [] []).put = [116, 114, 117, 101] := by rw [JV.put]; rfl
      rw [hp]
      decide
    | false =>
      have hp : (JV.mk 1 false false ⟨#[]⟩ 0 ⟨#[]⟩ [] []).put = [102, 97, 108, 115, 101] := by rw [JV.put]; rfl
      rw [hp]
      decide
  · refine widens_flat (by show (2 : Int) ≠ 4; decide) (by show (2 : Int) ≠ 5; decide) ?_
    have hp : (JV.mk 2 false ng d e ⟨#[]⟩ [] []).put = decText ng d e := by rw [JV.put]; rfl
    rw [hp]
    exact num_quiet hN
  · intro r i
    have hp : (JV.mk 3 false false ⟨#[]⟩ 0 tx [] []).put = quoted tx := by rw [JV.put]; rfl
    refine ⟨[], quoted tx, [], gaps_nil, gaps_nil, hp ▸ Wide.one _ (by show (3 : Int) ≠ 4; decide) (by show (3 : Int) ≠ 5; decide), ?_⟩
    rw [hp, wideF_text]; rfl
  · intro r i
    have hp : (JV.mk 4 false false ⟨#[]⟩ 0 ⟨#[]⟩ l []).put = JV.putL 91 l ++ (if l.length = 0 then [91, 93] else [93]) := by rw [JV.put]; rfl
    rw [hp]
    cases l with
    | nil =>
      rw [JV.putL]
      show ∃ g q g', Gaps g ∧ Gaps g' ∧ Wide _ q ∧ wideF n G H false (91 :: 93 :: r) i = g ++ (q ++ (g' ++ wideF n G H false r (i + 2)))
      refine ⟨gapAt n G i, 91 :: ((gapAt n H i ++ gapAt n G (i + 1)) ++ [93]), gapAt n H (i + 1), gapAt_gaps hG i, gapAt_gaps hH _, .list _ _ _ _ _ _ _ _ _ rfl (.nil _ (gaps_app (gapAt_gaps hH _) (gapAt_gaps hG _))), ?_⟩
      rw [wideF_brk (by decide), wideF_brk (by decide)]
      simp
    | cons x xs =>
      rw [JV.putL, if_neg (by simp)]
      obtain ⟨g1, q1, g2, h1, h2, h3, h4⟩ := hl x (.head _) (JV.putL 44 xs ++ 93 :: r) (i + 1)
      obtain ⟨g5, h6, h7⟩ := widens_list hG hH xs (fun y hy' => hl y (.tail _ hy')) r (i + 1 + x.put.length)
      obtain ⟨q8, h8, h9⟩ := h7 g2 h2
      refine ⟨gapAt n G i, 91 :: ((gapAt n H i ++ g1) ++ (q1 ++ q8)), g5, gapAt_gaps hG i, h6, .list _ _ _ _ _ _ _ _ _ rfl (.cons _ _ _ _ _ (gaps_app (gapAt_gaps hH i) h1) h3 h8), ?_⟩
      show wideF n G H false (91 :: (((x.put ++ JV.putL 44 xs) ++ [93]) ++ r)) i = _
      rw [wideF_brk (by decide), List.append_assoc, List.append_assoc, show [93] ++ r = 93 :: r from rfl, h4, h9]
      simp only [List.length_cons, List.length_append, List.length_nil, List.append_assoc, List.cons_append]
      rw [show i + 1 + x.put.length + (JV.putL 44 xs).length + 1 = i + (x.put.length + ((JV.putL 44 xs).length + (0 + 1)) + 1) by omega]
  · intro r i
    have hp : (JV.mk 5 false false ⟨#[]⟩ 0 ⟨#[]⟩ [] f).put = JV.putF 123 f ++ (if f.length = 0 then [123, 125] else [125]) := by rw [JV.put]; rfl
    rw [hp]
    cases f with
    | nil =>
      rw [JV.putF]
      show ∃ g q g', Gaps g ∧ Gaps g' ∧ Wide _ q ∧ wideF n G H false (123 :: 125 :: r) i = g ++ (q ++ (g' ++ wideF n G H false r (i + 2)))
      refine ⟨gapAt n G i, 123 :: ((gapAt n H i ++ gapAt n G (i + 1)) ++ [125]), gapAt n H (i + 1), gapAt_gaps hG i, gapAt_gaps hH _, .obj _ _ _ _ _ _ _ _ _ rfl (.nil _ (gaps_app (gapAt_gaps hH _) (gapAt_gaps hG _))), ?_⟩
      rw [wideF_brk (by decide), wideF_brk (by decide)]
      simp
    | cons x xs =>
      obtain ⟨nm, v⟩ := x
      rw [JV.putF, if_neg (by simp)]
      obtain ⟨g1, q1, g2, h1, h2, h3, h4⟩ := hf (.mk nm v) (.head _) (JV.putF 44 xs ++ 125 :: r) (i + 1 + (quoted nm).length + 1)
      simp only [JF.value] at h3 h4
      obtain ⟨g5, h6, h7⟩ := widens_obj hG hH xs (fun y hy' => hf y (.tail _ hy')) r (i + 1 + (quoted nm).length + 1 + v.put.length)
      obtain ⟨q8, h8, h9⟩ := h7 g2 h2
      refine ⟨gapAt n G i, 123 :: (gapAt n H i ++ (quoted nm ++ (gapAt n G (i + 1 + (quoted nm).length) ++ 58 :: ((gapAt n H (i + 1 + (quoted nm).length) ++ g1) ++ (q1 ++ q8))))), g5, gapAt_gaps hG i, h6, .obj _ _ _ _ _ _ _ _ _ rfl (.cons _ _ _ _ _ _ _ _ (gapAt_gaps hH i) (gapAt_gaps hG _) (gaps_app (gapAt_gaps hH _) h1) h3 h8), ?_⟩
      show wideF n G H false (123 :: (((quoted nm ++ (58 :: (v.put ++ JV.putF 44 xs))) ++ [125]) ++ r)) i = _
      rw [wideF_brk (by decide), List.append_assoc, List.append_assoc, show [125] ++ r = 125 :: r from rfl, wideF_text, List.cons_append, wideF_brk (by decide), List.append_assoc, h4, h9]
      simp only [List.length_cons, List.length_append, List.length_nil, List.append_assoc, List.cons_append]
      rw [show i + 1 + (quoted nm).length + 1 + v.put.length + (JV.putF 44 xs).length + 1 = i + ((quoted nm).length + (v.put.length + ((JV.putF 44 xs).length + (0 + 1)) + 1) + 1) by omega]
theorem widens_all (hG : ∀ i, Gaps (G i)) (hH : ∀ i, Gaps (H i)) : ∀ (m : Nat) (x : JV), x.wt ≤ m → x.isN → Widens n G H x
  | 0, .mk k t ng d e s l f, h, _ => by rw [JV.wt] at h; omega
  | m + 1, .mk k t ng d e s l f, h, hx => by
    rw [JV.wt] at h
    have hm : (∀ y ∈ l, y.isN) ∧ (∀ g ∈ f, g.value.isN) := by
      rw [JV.isN] at hx
      rcases hx with ⟨_, _, _, _, _, _, rfl, rfl⟩ | ⟨_, _, _, _, _, rfl, rfl⟩ | ⟨_, _, _, _, rfl, rfl⟩ | ⟨_, _, _, _, _, _, rfl, rfl⟩ | ⟨_, _, _, _, _, _, hL, rfl⟩ | ⟨_, _, _, _, _, _, rfl, hF, _⟩
      · exact ⟨(fun y h => nomatch h), (fun y h => nomatch h)⟩
      · exact ⟨(fun y h => nomatch h), (fun y h => nomatch h)⟩
      · exact ⟨(fun y h => nomatch h), (fun y h => nomatch h)⟩
      · exact ⟨(fun y h => nomatch h), (fun y h => nomatch h)⟩
      · exact ⟨isNL_iff.1 hL, (fun y h => nomatch h)⟩
      · exact ⟨(fun y h => nomatch h), fun g hg => (isNF_iff.1 hF g hg).2⟩
    exact widens_step hG hH _ hx (fun y hy => widens_all hG hH m y (by have := wt_memL hy; simp only [JV.list] at this; omega) (hm.1 y hy)) (fun g hg => widens_all hG hH m _ (by have := wt_memF hg; simp only [JV.fields] at this; omega) (hm.2 g hg))
/-- **Gaps change nothing.** -/
theorem gaps_same (hG : ∀ i, Gaps (G i)) (hH : ∀ i, Gaps (H i)) (x : JV) (hx : x.isN) : (x.deep ≤ 64 ∧ ∃ j, parseTo ⟨(wideF n G H false x.put 0).toArray⟩ = .ok x j) ∨ (64 < x.deep ∧ ∃ k e, parseTo ⟨(wideF n G H false x.put 0).toArray⟩ = .no k e) := by
  obtain ⟨g, q, g', h1, h2, h3, h4⟩ := widens_all (n := n) hG hH _ x (Nat.le_refl _) hx [] 0
  have hn : ∀ j, wideF n G H false [] j = [] := fun j => by rw [wideF]
  rw [List.append_nil, hn, List.append_nil] at h4
  rw [h4]
  by_cases hd : x.deep ≤ 64
  · exact .inl ⟨hd, parse_wide x hx h1 h3 h2 hd⟩
  · exact .inr ⟨by omega, parse_wide_deep x hx h1 h3 h2 (by omega)⟩
end
end Go.Proofs.YtmfijfcikecglaaGreatDoor
end
section
set_option linter.unusedVariables false
set_option linter.unusedSimpArgs false
namespace Go.Proofs.YtmfijfcikecglaaGreatDoor
open Go Go.RowKit Go.Proofs.YtmfijfcikecglaaGreatDoorW.PrintWords

section
variable {P : Program} {ops : Array Oper} {o : Oper} {a : Act} {Q : Exit → Act → World → Prop} {K : Act → World → Prop}
theorem str_append_step {w0 W : World} (base : Nat) (hw : Region.wanted o (yielded ops a.tmps) = true) (s x : Operand) (t u e : TypeId)
    (ho : o.op = .call { callee := .builtin .append, args := #[s, x], argTypes := #[t, u] })
    (ht : P.underlying t = some (.slice e)) (hu : P.underlying u = some .string) (hinfo : (P.info? e).map (fun i => (i.zero, i.size, i.bytes)) = some (some (.int .u8 0), 1, 1))
    (v : Value) (xs : List Int) (y : ByteArray) (hs : a.eval s = v) (hx : a.eval x = .string y)
    (HO : W.ownsRow base e 1 v xs.length (nums .u8 xs)) (HB : Below base w0 W) (hbase : base ≤ W.heap.size) (hl : xs.length + y.size ≤ 140737488355328)
    (h : ∀ v1 w1, w1.ownsRow base e 1 v1 (xs ++ bytesOf y).length (nums .u8 (xs ++ bytesOf y)) → Below base w0 w1 → W.grownBy w1 v.ownBlock → K (a.put o.dst v1) w1) :
    if Region.wanted o (yielded ops a.tmps) = true then Oper.wp P o a W K Q else K (a.put o.dst undef) W := by
  obtain ⟨i0, hi, hzz⟩ := Option.map_eq_some_iff.1 hinfo
  simp only [Prod.mk.injEq] at hzz
  obtain ⟨hz0, hz1, hz2⟩ := hzz
  rw [if_pos hw]
  obtain ⟨v1, w1, hr, hown, hg, _⟩ := Lib.run_append_own_string (P := P) W base t u o.type e i0 ht hu hi hz0 hz1 hz2 v xs.length (nums .u8 xs) HO y (by simp only [maxLen]; omega) hl hbase
  unfold Oper.wp execOp
  simp only [ho, resolve, invoke, builtin, Sem.run_bind, Sem.run_pure, Result.andThen_ok, List.map_toArray, List.map_cons, List.map_nil, hs, hx, hr]
  have hl2 : (xs ++ bytesOf y).length = xs.length + y.size := by rw [List.length_append, bytesOf_length]
  have hc : nums .u8 (xs ++ bytesOf y) = nums .u8 xs ++ Lib.strCells y := by
    rw [nums_append]
    congr 1
    unfold nums bytesOf Lib.strCells
    simp
  refine h v1 w1 ?_ (HB.grown hg hbase (own_base HO)) hg
  rw [hl2, hc]
  exact hown
end
/-- Which of n things a number speaks of. -/
def pickN (c : Int) (n : Int) : Int := (if c < 0 then -(c + 1) else c).tmod n
theorem pickN_in (c n : Int) (hn : 0 < n) : 0 ≤ pickN c n ∧ pickN c n < n := by
  unfold pickN
  have h0 : (0 : Int) ≤ (if c < 0 then -(c + 1) else c) := by split <;> omega
  generalize (if c < 0 then -(c + 1) else c) = d at *
  rw [Int.tmod_eq_emod_of_nonneg h0]
  exact ⟨Int.emod_nonneg _ (by omega), Int.emod_lt_of_pos _ hn⟩

set_option maxRecDepth 100000 in
set_option maxHeartbeats 4000000 in
theorem pick_any (c n : Int) (w : World) (h0 : -9223372036854775808 ≤ c) (h1 : c ≤ 9223372036854775807) (hn : 0 < n) (hn2 : n ≤ 4611686018427387904) :
    Calls Tryz.prog 32 #[.int .i64 c, .int .i64 n] w fun e w' => e = .returned (.int .i64 (pickN c n)) ∧ w' = w := by
  have hp := pickN_in c n hn
  unfold pickN at hp ⊢
  have hn0 : (n == 0) = false := by simp; omega
  by_cases hc : c < 0
  · rw [if_pos hc] at hp ⊢
    go_enter Tryz.func32, Tryz.ntmps32
    go_wp2_with fail
    go_ret
    exact ⟨by rw [Int.neg_tmod]; rfl, rfl⟩
  · rw [if_neg hc] at hp ⊢
    go_enter Tryz.func32, Tryz.ntmps32
    go_wp2_with fail
    go_ret
    exact ⟨by rw [Int.tmod_eq_emod_of_nonneg (by omega)]; rfl, rfl⟩
end Go.Proofs.YtmfijfcikecglaaGreatDoor
end
section
set_option linter.unusedVariables false
set_option linter.unusedSimpArgs false
namespace Go.Proofs.YtmfijfcikecglaaGreatDoor
open Go Go.RowKit

/-- A reading ends, or fails, within the text. -/
def PR.inn {α : Type} (n : Nat) : PR α → Prop
  | .ok _ j => j ≤ n
  | .no k _ => k ≤ n
theorem textF_inn (s : ByteArray) : ∀ (n j : Nat) (acc : List UInt8), j ≤ s.size → (textF s n j acc).inn s.size
  | 0, j, acc, h => h
  | n + 1, j, acc, h => by
    rw [textF]
    split
    · rename_i h1
      have := byteAt_in (s := s) (i := j) (by omega)
      show j + 1 ≤ s.size
      omega
    · split
      · exact h
      · exact textF_inn s n _ _ (letAt_le s j h).1
theorem textAt_inn (s : ByteArray) (i : Nat) (h : i < s.size) : (textAt s i).inn s.size := textF_inn s _ _ _ (by omega)
theorem textVal_inn (s : ByteArray) (i : Nat) (h : i < s.size) : (textVal s i).inn s.size := by
  unfold textVal
  have h1 := textAt_inn s i h
  cases ht : textAt s i with
  | no k e => rw [ht] at h1; exact h1
  | ok l k => rw [ht] at h1; exact h1
theorem pre_size {s : ByteArray} {i : Nat} {p : List UInt8} (hi : i ≤ s.size) (h : preAt s i p = true) : i + p.length ≤ s.size := by
  unfold preAt Lib.hasPrefix at h
  have h1 := (List.isPrefixOf_iff_prefix.1 h).length_le
  have h2 : (s.extract i s.size).data.toList.length = (s.extract i s.size).size := Array.length_toList
  rw [h2, ByteArray.size_extract] at h1
  omega
theorem litAt_inn (s : ByteArray) (i : Nat) (h : i ≤ s.size) : (litAt s i).inn s.size := by
  unfold litAt
  split
  · rename_i h1; exact pre_size h h1
  · split
    · rename_i h1; exact pre_size h h1
    · split
      · rename_i h1; exact pre_size h h1
      · exact h
theorem numberAt_inn (s : ByteArray) (i : Nat) (h : i ≤ s.size) : (numberAt s i).inn s.size := by
  unfold numberAt
  split
  · exact numTo_size s _ i h
  · exact h
theorem sevF_inn {σ : Type} (s : ByteArray) (c : Nat) (hc : 0 < c) (each : Nat → σ → PR σ) (hw : ∀ i x, i ≤ s.size → (each i x).inn s.size) : ∀ (n i : Nat) (x : σ), i ≤ s.size → (sevF s c each n i x).inn s.size
  | 0, i, x, h => h
  | n + 1, i, x, h => by
    rw [sevF]
    have h1 := hw i x h
    cases he : each i x with
    | no k e => rw [he] at h1; exact h1
    | ok z k =>
      rw [he] at h1
      have h2 : k ≤ s.size := h1
      have h3 := gapTo_size s k h2
      simp only
      split
      · rename_i hb
        have := byteAt_in (s := s) (i := gapTo s k) (by omega)
        exact sevF_inn s c hc each hw n _ _ (gapTo_size s _ (by omega))
      · split
        · rename_i hb
          have := byteAt_in (s := s) (i := gapTo s k) (by omega)
          show gapTo s k + 1 ≤ s.size
          omega
        · exact h3
theorem sevAt_inn {σ : Type} (s : ByteArray) (c : Nat) (hc : 0 < c) (each : Nat → σ → PR σ) (hw : ∀ i x, i ≤ s.size → (each i x).inn s.size) (i : Nat) (x : σ) (h : i < s.size) : (sevAt s c each i x).inn s.size := by
  unfold sevAt
  have h3 := gapTo_size s (i + 1) (by omega)
  split
  · rename_i hb
    have := byteAt_in (s := s) (i := gapTo s (i + 1)) (by omega)
    show gapTo s (i + 1) + 1 ≤ s.size
    omega
  · exact sevF_inn s c hc each hw _ _ _ h3
theorem itemL_inn {s : ByteArray} {val : Nat → PR JV} (hv : ∀ i, i ≤ s.size → (val i).inn s.size) (i : Nat) (xs : List JV) (h : i ≤ s.size) : (itemL val i xs).inn s.size := by
  unfold itemL
  have h1 := hv i h
  cases hx : val i with
  | no k e => rw [hx] at h1; exact h1
  | ok x k => rw [hx] at h1; exact h1
theorem fieldAt_inn {s : ByteArray} {val : Nat → PR JV} (hv : ∀ i, i ≤ s.size → (val i).inn s.size) (i : Nat) (fs : List JF) (h : i ≤ s.size) : (fieldAt s val i fs).inn s.size := by
  unfold fieldAt
  split
  · rename_i hb
    have hi := byteAt_in (s := s) (i := i) (by omega)
    have h1 := textAt_inn s i hi
    cases ht : textAt s i with
    | no k e => rw [ht] at h1; exact h1
    | ok l k =>
      rw [ht] at h1
      have hk : k ≤ s.size := h1
      have h2 := gapTo_size s k hk
      simp only
      split
      · exact h
      · split
        · rename_i hb2
          have := byteAt_in (s := s) (i := gapTo s k) (by omega)
          have h3 := hv (gapTo s (gapTo s k + 1)) (gapTo_size s _ (by omega))
          cases hx : val (gapTo s (gapTo s k + 1)) with
          | no k2 e => rw [hx] at h3; exact h3
          | ok x k2 => rw [hx] at h3; exact h3
        · exact h2
  · exact h
theorem valWith_inn {s : ByteArray} {lst obj : PR JV} {i : Nat} (h : i ≤ s.size) (hl : i < s.size → lst.inn s.size) (ho : i < s.size → obj.inn s.size) : (valWith s lst obj i).inn s.size := by
  unfold valWith
  split
  · exact hl (byteAt_in (by omega))
  · split
    · exact ho (byteAt_in (by omega))
    · split
      · exact textVal_inn s i (byteAt_in (by omega))
      · split
        · exact numberAt_inn s i h
        · exact litAt_inn s i h
theorem listOf_inn {n : Nat} {p : PR (List JV)} (h : p.inn n) : (listOf p).inn n := by cases p <;> exact h
theorem objOf_inn {n : Nat} {p : PR (List JF)} (h : p.inn n) : (objOf p).inn n := by cases p <;> exact h
theorem valF_inn (s : ByteArray) : ∀ (D i : Nat), i ≤ s.size → (valF s D i).inn s.size
  | 0, i, h => by rw [valF]; exact valWith_inn h (fun _ => h) (fun _ => h)
  | D + 1, i, h => by
    rw [valF]
    exact valWith_inn h (fun hi => listOf_inn (sevAt_inn s 93 (by omega) _ (fun i x hi => itemL_inn (valF_inn s D) i x hi) i [] hi)) (fun hi => objOf_inn (sevAt_inn s 125 (by omega) _ (fun i x hi => fieldAt_inn (valF_inn s D) i x hi) i [] hi))
/-- A fault of Parse stands within the text. -/
theorem parse_at_in {s : ByteArray} {k : Nat} {e : PE} (h : parseTo s = .no k e) : k ≤ s.size := by
  unfold parseTo at h
  have h1 := valF_inn s 64 (gapTo s 0) (gapTo_size s 0 (Nat.zero_le _))
  cases hv : valF s 64 (gapTo s 0) with
  | no k2 e2 => rw [hv] at h h1; injection h with h2 h3; subst h2; exact h1
  | ok y j =>
    rw [hv] at h h1
    simp only at h
    split at h
    · injection h with h2 h3; subst h2; exact gapTo_size s j h1
    · cases h
end Go.Proofs.YtmfijfcikecglaaGreatDoor
end
section
set_option linter.unusedVariables false
set_option linter.unusedSimpArgs false
namespace Go.Proofs.YtmfijfcikecglaaGreatDoor
open Go Go.RowKit

/-- s begins as u. -/
def Pre (u s : ByteArray) : Prop := Has s 0 u.data.toList
section
variable {u s : ByteArray}
theorem Pre.size (h : Pre u s) : u.size ≤ s.size := by
  have := h.1
  rw [Nat.zero_add] at this
  exact this
theorem Pre.byte (h : Pre u s) {i : Nat} (hi : i < u.size) : byteAt s i = byteAt u i := by
  have hl : i < u.data.toList.length := by rw [Array.length_toList]; exact hi
  have h1 := h.2 i _ (List.getElem?_eq_getElem hl)
  have h2 := (Has.all u).2 i _ (List.getElem?_eq_getElem hl)
  rw [Nat.zero_add] at h1 h2
  rw [h1, h2]
theorem Pre.has (h : Pre u s) {j : Nat} {q : List UInt8} (hq : Has u j q) : Has s j q := by
  have hs := h.size
  have := hq.1
  refine ⟨by omega, fun k c hk => ?_⟩
  have hkl := (List.getElem?_eq_some_iff.1 hk).1
  rw [h.byte (by omega)]
  exact hq.2 k c hk
theorem Pre.ext (h : Pre u s) {i j : Nat} (hij : i ≤ j) (hj : j ≤ u.size) : s.extract i j = u.extract i j := by
  have h1 := Has.part u i (j - i) (by omega)
  have hl : ((u.data.toList.drop i).take (j - i)).length = j - i := by
    have h5 : u.data.toList.length = u.size := Array.length_toList
    rw [List.length_take, List.length_drop, h5]; omega
  have a := h1.extract
  have b := (h.has h1).extract
  rw [hl, show i + (j - i) = j by omega] at a b
  rw [a, b]
theorem byte_lt {u : ByteArray} {i : Nat} {c : Nat} (h : byteAt u i = c) (hc : 0 < c) : i < u.size := by
  rcases Nat.lt_or_ge i u.size with hl | hl
  · exact hl
  · rw [byteAt_end hl] at h; omega
theorem gapTo_pre (h : Pre u s) : ∀ (n i : Nat), u.size - i ≤ n → gapTo u i < u.size → gapTo s i = gapTo u i
  | 0, i, hn, hg => by
    have := gapTo_le u i
    omega
  | n + 1, i, hn, hg => by
    have hs := h.size
    have hle := gapTo_le u i
    have hi : i < u.size := by omega
    rw [gapTo] at hg ⊢
    rw [gapTo.eq_def u i]
    by_cases hc : isGap (byteAt u i) = true
    · rw [if_pos ⟨by omega, hc⟩] at hg
      rw [if_pos ⟨by omega, by rw [h.byte (by omega)]; exact hc⟩, if_pos ⟨by omega, hc⟩]
      exact gapTo_pre h n (i + 1) (by omega) hg
    · rw [if_neg (by rintro ⟨_, h'⟩; rw [h.byte (by omega)] at h'; exact hc h'), if_neg (by rintro ⟨_, h'⟩; exact hc h')]
theorem unitAt_pre (h : Pre u s) {i : Nat} (hi : i + 6 ≤ u.size) : unitAt s i = unitAt u i := by
  have hs := h.size
  unfold unitAt
  rw [if_neg (show ¬ s.size < i + 6 by omega), if_neg (show ¬ u.size < i + 6 by omega), h.ext (by omega) (by omega), h.ext (by omega) (by omega)]
theorem escAt_pre (h : Pre u s) {i : Nat} (hi : (escAt u i).2 ≠ 0) : escAt s i = escAt u i := by
  have hs := h.size
  by_cases h0 : u.size ≤ i + 1
  · exfalso; apply hi; unfold escAt; rw [if_pos h0]
  unfold escAt at hi ⊢
  rw [if_neg h0] at hi
  rw [if_neg (by omega), if_neg h0, h.byte (by omega)]
  cases hsh : shortEsc (byteAt u (i + 1)) with
  | some v => rfl
  | none =>
    rw [hsh] at hi
    simp only at hi ⊢
    by_cases h1 : (unitAt u i).2 = false
    · rw [if_pos h1] at hi; exact absurd rfl hi
    rw [if_neg h1] at hi
    have h1' : (unitAt u i).2 = true := by simpa using h1
    have e1 := unitAt_pre h (unitAt_size h1')
    rw [e1, if_neg h1, if_neg h1]
    by_cases h2 : (unitAt u i).1 < 55296 ∨ 57344 ≤ (unitAt u i).1
    · rw [if_pos h2, if_pos h2]
    rw [if_neg h2] at hi
    rw [if_neg h2, if_neg h2]
    by_cases h3 : (unitAt u i).1 < 56320 ∧ 56320 ≤ (unitAt u (i + 6)).1 ∧ (unitAt u (i + 6)).1 < 57344
    · have e2 := unitAt_pre h (i := i + 6) (unitAt_size2 (by omega))
      rw [e2]
    · rw [if_neg h3] at hi; exact absurd rfl hi
theorem letAt_pre (h : Pre u s) {j : Nat} (hj : (letAt u j).2 ≠ 0) : letAt s j = letAt u j := by
  have hs := h.size
  by_cases h0 : j = u.size ∨ byteAt u j < 32
  · exfalso; apply hj; unfold letAt; rw [if_pos h0]
  have hlt : j < u.size := byte_lt rfl (by omega)
  have hb := h.byte hlt
  unfold letAt at hj ⊢
  rw [if_neg h0] at hj
  rw [if_neg h0, if_neg (by rw [hb]; omega), hb]
  by_cases h1 : byteAt u j = 92
  · rw [if_pos h1] at hj
    rw [if_pos h1, if_pos h1]
    exact escAt_pre h hj
  rw [if_neg h1] at hj
  rw [if_neg h1, if_neg h1]
  by_cases h2 : (Utf8.decode u j).1 = 65533 ∧ (Utf8.decode u j).2 = 1
  · rw [if_pos h2] at hj; exact absurd rfl hj
  have h5 : u.data.toList.length = u.size := Array.length_toList
  have hne : u.data.toList.drop j ≠ [] := by
    intro e
    have := congrArg List.length e
    rw [List.length_drop, h5] at this
    simp at this
    omega
  have ed := decode_drop u j
  have hH : Has s j ((u.data.toList.drop j).take (Lib.decodeL (u.data.toList.drop j)).2) := by
    have hw := Lib.decodeN_width_le (u.data.toList.drop j).length ((u.data.toList.drop j).getD 0 0).toNat ((u.data.toList.drop j).getD 1 0).toNat ((u.data.toList.drop j).getD 2 0).toNat ((u.data.toList.drop j).getD 3 0).toNat (List.length_pos_iff.2 hne)
    rw [← Lib.decodeL_N, List.length_drop, h5] at hw
    exact h.has (Has.part u j _ (by omega))
  have es := decode_same hne (by rw [← ed]; exact h2) hH
  rw [es, ← ed]
theorem textF_pre (h : Pre u s) : ∀ (n n' j : Nat) (acc l : List UInt8) (k : Nat), textF u n j acc = .ok l k → n ≤ n' → textF s n' j acc = .ok l k
  | 0, n', j, acc, l, k, e, _ => by rw [textF] at e; cases e
  | n + 1, n', j, acc, l, k, e, hn => by
    obtain ⟨m, rfl⟩ : ∃ m, n' = m + 1 := ⟨n' - 1, by omega⟩
    rw [textF] at e ⊢
    by_cases h1 : byteAt u j = 34
    · rw [if_pos h1] at e
      rw [if_pos (by rw [h.byte (byte_lt h1 (by omega))]; exact h1)]
      exact e
    rw [if_neg h1] at e
    by_cases h2 : (letAt u j).2 = 0
    · rw [if_pos h2] at e; cases e
    rw [if_neg h2] at e
    have hlt : j < u.size := by
      rcases Nat.lt_or_ge j u.size with hl | hl
      · exact hl
      · exfalso; apply h2; unfold letAt; rw [if_pos (by rw [byteAt_end hl]; omega)]
    rw [if_neg (by rw [h.byte hlt]; exact h1), letAt_pre h h2, if_neg h2]
    exact textF_pre h n m _ _ _ _ e (by omega)
theorem textAt_pre (h : Pre u s) {i : Nat} {l : List UInt8} {j : Nat} (e : textAt u i = .ok l j) : textAt s i = .ok l j := textF_pre h _ _ _ _ _ _ e (by have := h.size; omega)
theorem numTo_pre (h : Pre u s) : ∀ (n n' i : Nat), numTo u n i < i + n → numTo u n i < u.size → n ≤ n' → numTo s n' i = numTo u n i
  | 0, n', i, h1, _, _ => by rw [numTo] at h1; omega
  | n + 1, n', i, h1, h2, hn => by
    obtain ⟨m, rfl⟩ : ∃ m, n' = m + 1 := ⟨n' - 1, by omega⟩
    have hs := h.size
    rw [numTo] at h1 h2 ⊢
    rw [numTo]
    by_cases hc : i < u.size ∧ isNum (byteAt u i) = true
    · rw [if_pos hc] at h1 h2
      rw [if_pos hc, if_pos ⟨by omega, by rw [h.byte hc.1]; exact hc.2⟩]
      exact numTo_pre h n m (i + 1) (by omega) h2 (by omega)
    · rw [if_neg hc] at h1 h2
      rw [if_neg hc, if_neg (by rintro ⟨_, hx⟩; rw [h.byte h2] at hx; exact hc ⟨h2, hx⟩)]
theorem numTo_ge (u : ByteArray) : ∀ (n i : Nat), i ≤ numTo u n i
  | 0, i => by rw [numTo]; omega
  | n + 1, i => by
    rw [numTo]
    split
    · have := numTo_ge u n (i + 1); omega
    · omega
theorem numberAt_pre (h : Pre u s) {i : Nat} {x : JV} {j : Nat} (e : numberAt u i = .ok x j) (hj : j < u.size) : numberAt s i = .ok x j := by
  have hs := h.size
  have hj2 : j = numTo u (u.size + 1) i := by
    unfold numberAt at e
    split at e
    · injection e with _ e; exact e.symm
    · cases e
  have hg := numTo_ge u (u.size + 1) i
  have en := numTo_pre h (u.size + 1) (s.size + 1) i (by omega) (by omega) (by omega)
  unfold numberAt at e ⊢
  rw [en, h.ext (by omega) (by omega)]
  exact e
theorem preAt_pre (h : Pre u s) {i : Nat} {p : List UInt8} (hi : i ≤ u.size) (e : preAt u i p = true) : preAt s i p = true := by
  have h1 := pre_size hi e
  refine pre_yes (h.has ?_)
  unfold preAt Lib.hasPrefix at e
  rw [extract_drop, List.isPrefixOf_iff_prefix] at e
  obtain ⟨r, hr⟩ := e
  have h2 := Has.part u i (u.size - i) (by omega)
  rw [List.take_of_length_le (by rw [List.length_drop, Array.length_toList]; exact Nat.le_refl _), ← hr] at h2
  exact h2.left
theorem litAt_pre (h : Pre u s) {i : Nat} {x : JV} {j : Nat} (hi : i < u.size) (e : litAt u i = .ok x j) : litAt s i = .ok x j := by
  have hb := h.byte hi
  have first : ∀ (c : UInt8) (p : List UInt8), preAt u i (c :: p) = true → byteAt s i = c.toNat := by
    intro c p hp
    rw [hb]
    rcases Nat.decEq (byteAt u i) c.toNat with hne | he
    · rw [pre_no hne] at hp; cases hp
    · exact he
  unfold litAt at e ⊢
  by_cases h1 : preAt u i [110, 117, 108, 108] = true
  · rw [if_pos h1] at e
    rw [if_pos (preAt_pre h (by omega) h1)]; exact e
  rw [if_neg h1] at e
  by_cases h2 : preAt u i [116, 114, 117, 101] = true
  · rw [if_pos h2] at e
    rw [if_neg (by rw [pre_no (by rw [first _ _ h2]; decide)]; simp), if_pos (preAt_pre h (by omega) h2)]; exact e
  rw [if_neg h2] at e
  by_cases h3 : preAt u i [102, 97, 108, 115, 101] = true
  · rw [if_pos h3] at e
    rw [if_neg (by rw [pre_no (by rw [first _ _ h3]; decide)]; simp), if_neg (by rw [pre_no (by rw [first _ _ h3]; decide)]; simp), if_pos (preAt_pre h (by omega) h3)]; exact e
  · rw [if_neg h3] at e; cases e

/-! ### several -/
theorem sevF_lt {σ : Type} {c : Nat} {eu : Nat → σ → PR σ} (hlt : ∀ i x y j, eu i x = .ok y j → i < u.size) {n i : Nat} {x y : σ} {k : Nat} (e : sevF u c eu n i x = .ok y k) : i < u.size := by
  cases n with
  | zero => rw [sevF] at e; cases e
  | succ n =>
    rw [sevF] at e
    cases he : eu i x with
    | no k e' => rw [he] at e; cases e
    | ok z j => exact hlt _ _ _ _ he
theorem sevF_pre (h : Pre u s) {σ : Type} {c : Nat} (hc : 0 < c) {eu es : Nat → σ → PR σ} (hlt : ∀ i x y j, eu i x = .ok y j → i < u.size) (hw : ∀ i x y j, eu i x = .ok y j → j < u.size → es i x = .ok y j) : ∀ (n n' i : Nat) (x y : σ) (k : Nat), sevF u c eu n i x = .ok y k → n ≤ n' → sevF s c es n' i x = .ok y k
  | 0, n', i, x, y, k, e, _ => by rw [sevF] at e; cases e
  | n + 1, n', i, x, y, k, e, hn => by
    obtain ⟨m, rfl⟩ : ∃ m, n' = m + 1 := ⟨n' - 1, by omega⟩
    rw [sevF] at e ⊢
    cases he : eu i x with
    | no k e' => rw [he] at e; cases e
    | ok z j =>
      rw [he] at e
      simp only at e
      have hjg := gapTo_le u j
      by_cases h1 : byteAt u (gapTo u j) = 44
      · rw [if_pos h1] at e
        have hl := byte_lt h1 (by omega)
        have eg := gapTo_pre h _ j (Nat.le_refl _) hl
        have hl2 := sevF_lt hlt e
        have eg2 := gapTo_pre h _ _ (Nat.le_refl _) hl2
        rw [hw _ _ _ _ he (by omega)]
        simp only
        rw [eg, if_pos (by rw [h.byte hl]; exact h1), eg2]
        exact sevF_pre h hc hlt hw n m _ _ _ _ e (by omega)
      · rw [if_neg h1] at e
        by_cases h2 : byteAt u (gapTo u j) = c
        · rw [if_pos h2] at e
          have hl := byte_lt h2 hc
          have eg := gapTo_pre h _ j (Nat.le_refl _) hl
          rw [hw _ _ _ _ he (by omega)]
          simp only
          rw [eg, if_neg (by rw [h.byte hl]; exact h1), if_pos (by rw [h.byte hl]; exact h2)]
          exact e
        · rw [if_neg h2] at e; cases e
theorem sevAt_pre (h : Pre u s) {σ : Type} {c : Nat} (hc : 0 < c) {eu es : Nat → σ → PR σ} (hlt : ∀ i x y j, eu i x = .ok y j → i < u.size) (hw : ∀ i x y j, eu i x = .ok y j → j < u.size → es i x = .ok y j) {i : Nat} {x y : σ} {k : Nat} (e : sevAt u c eu i x = .ok y k) : sevAt s c es i x = .ok y k := by
  unfold sevAt at e ⊢
  by_cases h1 : byteAt u (gapTo u (i + 1)) = c
  · rw [if_pos h1] at e
    have hl := byte_lt h1 hc
    have eg := gapTo_pre h _ _ (Nat.le_refl _) hl
    rw [eg, if_pos (by rw [h.byte hl]; exact h1)]
    exact e
  · rw [if_neg h1] at e
    have hl := sevF_lt hlt e
    have eg := gapTo_pre h _ _ (Nat.le_refl _) hl
    rw [eg, if_neg (by rw [h.byte hl]; exact h1)]
    exact sevF_pre h hc hlt hw _ _ _ _ _ _ e (by have := h.size; omega)
/-- What is read of u is read of s, if it ends ahead of u's end. -/
def PreV (u : ByteArray) (vu vs : Nat → PR JV) : Prop := ∀ i x j, vu i = .ok x j → j < u.size → vs i = .ok x j
def LtV (u : ByteArray) (vu : Nat → PR JV) : Prop := ∀ i x j, vu i = .ok x j → i < u.size
theorem itemL_lt {vu : Nat → PR JV} (hl : LtV u vu) (i : Nat) (xs ys : List JV) (j : Nat) (e : itemL vu i xs = .ok ys j) : i < u.size := by
  unfold itemL at e
  cases hv : vu i with
  | no k e' => rw [hv] at e; cases e
  | ok x k => exact hl _ _ _ hv
theorem itemL_pre {vu vs : Nat → PR JV} (hv : PreV u vu vs) (i : Nat) (xs ys : List JV) (j : Nat) (e : itemL vu i xs = .ok ys j) (hj : j < u.size) : itemL vs i xs = .ok ys j := by
  unfold itemL at e ⊢
  cases hx : vu i with
  | no k e' => rw [hx] at e; cases e
  | ok x k =>
    rw [hx] at e
    simp only at e
    have hk : k = j := by injection e
    subst hk
    rw [hv _ _ _ hx hj]
    exact e
theorem fieldAt_lt {vu : Nat → PR JV} (i : Nat) (fs gs : List JF) (j : Nat) (e : fieldAt u vu i fs = .ok gs j) : i < u.size := by
  unfold fieldAt at e
  by_cases h1 : byteAt u i = 34
  · exact byte_lt h1 (by omega)
  · rw [if_neg h1] at e; cases e
theorem fieldAt_pre (h : Pre u s) {vu vs : Nat → PR JV} (hl : LtV u vu) (hv : PreV u vu vs) (i : Nat) (fs gs : List JF) (j : Nat) (e : fieldAt u vu i fs = .ok gs j) (hj : j < u.size) : fieldAt s vs i fs = .ok gs j := by
  unfold fieldAt at e ⊢
  by_cases h1 : byteAt u i = 34
  · rw [if_pos h1] at e
    rw [if_pos (by rw [h.byte (byte_lt h1 (by omega))]; exact h1)]
    cases ht : textAt u i with
    | no k e' => rw [ht] at e; cases e
    | ok l k =>
      rw [ht] at e
      rw [textAt_pre h ht]
      simp only at e ⊢
      by_cases h2 : hasName fs ⟨l.toArray⟩ = true
      · rw [if_pos h2] at e; cases e
      rw [if_neg h2] at e ⊢
      by_cases h3 : byteAt u (gapTo u k) = 58
      · rw [if_pos h3] at e
        have hl3 := byte_lt h3 (by omega)
        have eg := gapTo_pre h _ k (Nat.le_refl _) hl3
        rw [eg, if_pos (by rw [h.byte hl3]; exact h3)]
        cases hx : vu (gapTo u (gapTo u k + 1)) with
        | no k' e' => rw [hx] at e; cases e
        | ok x k' =>
          rw [hx] at e
          have hk : k' = j := by
            have e' : PR.ok (fs ++ [JF.mk ⟨l.toArray⟩ x]) k' = PR.ok gs j := e
            injection e'
          subst hk
          have eg2 := gapTo_pre h _ _ (Nat.le_refl _) (hl _ _ _ hx)
          rw [eg2, hv _ _ _ hx hj]
          exact e
      · rw [if_neg h3] at e; cases e
  · rw [if_neg h1] at e; cases e
theorem valF_end {D i : Nat} (hi : u.size ≤ i) : valF u D i = .no i .due := by
  obtain ⟨lst, obj, ev⟩ := valF_with u D i
  have hb := byteAt_end hi
  rw [ev]
  unfold valWith litAt
  rw [if_neg (by omega), if_neg (by omega), if_neg (by omega), if_neg (by omega), pre_no (by rw [hb]; decide), if_neg (by simp), pre_no (by rw [hb]; decide), if_neg (by simp), pre_no (by rw [hb]; decide), if_neg (by simp)]
theorem valF_lt (D : Nat) : LtV u (valF u D) := by
  intro i x j e
  rcases Nat.lt_or_ge i u.size with hl | hl
  · exact hl
  · rw [valF_end hl] at e; cases e
theorem textVal_pre (h : Pre u s) {i : Nat} {x : JV} {j : Nat} (e : textVal u i = .ok x j) : textVal s i = .ok x j := by
  unfold textVal at e ⊢
  cases ht : textAt u i with
  | no k e' => rw [ht] at e; cases e
  | ok l k => rw [ht] at e; rw [textAt_pre h ht]; exact e
theorem valWith_pre (h : Pre u s) {l1 o1 l2 o2 : PR JV} {i : Nat} (hi : i < u.size) (hl : ∀ x j, l1 = .ok x j → l2 = .ok x j) (ho : ∀ x j, o1 = .ok x j → o2 = .ok x j) {x : JV} {j : Nat} (e : valWith u l1 o1 i = .ok x j) (hj : j < u.size ∨ ¬ (byteAt u i = 45 ∨ (48 ≤ byteAt u i ∧ byteAt u i ≤ 57))) : valWith s l2 o2 i = .ok x j := by
  have hb := h.byte hi
  unfold valWith at e ⊢
  rw [hb]
  by_cases h1 : byteAt u i = 91
  · rw [if_pos h1] at e ⊢; exact hl _ _ e
  rw [if_neg h1] at e ⊢
  by_cases h2 : byteAt u i = 123
  · rw [if_pos h2] at e ⊢; exact ho _ _ e
  rw [if_neg h2] at e ⊢
  by_cases h3 : byteAt u i = 34
  · rw [if_pos h3] at e ⊢; exact textVal_pre h e
  rw [if_neg h3] at e ⊢
  by_cases h4 : byteAt u i = 45 ∨ (48 ≤ byteAt u i ∧ byteAt u i ≤ 57)
  · rw [if_pos h4] at e ⊢
    rcases hj with hj | hj
    · exact numberAt_pre h e hj
    · exact absurd h4 hj
  · rw [if_neg h4] at e ⊢; exact litAt_pre h hi e
theorem valF_pre2 (h : Pre u s) : ∀ (D i : Nat) (x : JV) (j : Nat), valF u D i = .ok x j → (j < u.size ∨ ¬ (byteAt u i = 45 ∨ (48 ≤ byteAt u i ∧ byteAt u i ≤ 57))) → valF s D i = .ok x j
  | 0, i, x, j, e, hj => by
    have hi := valF_lt _ _ _ _ e
    rw [valF] at e ⊢
    exact valWith_pre h hi (by intro x j h; cases h) (by intro x j h; cases h) e hj
  | D + 1, i, x, j, e, hj => by
    have hi := valF_lt _ _ _ _ e
    have hP : PreV u (valF u D) (valF s D) := fun i x j e hj => valF_pre2 h D i x j e (.inl hj)
    rw [valF] at e ⊢
    refine valWith_pre h hi ?_ ?_ e hj
    · intro x j e
      obtain ⟨xs, hx⟩ := listOf_ok e
      rw [hx] at e
      rw [sevAt_pre h (by omega) (itemL_lt (valF_lt D)) (itemL_pre hP) hx]
      exact e
    · intro x j e
      obtain ⟨xs, hx⟩ := objOf_ok e
      rw [hx] at e
      rw [sevAt_pre h (by omega) (fieldAt_lt) (fieldAt_pre h (valF_lt D) hP) hx]
      exact e
end

/-! ### what is told, cut off -/
theorem put_first2 : ∀ (x : JV), x.isN → x.kind ≠ 2 → ∃ c q, x.put = c :: q ∧ ¬ (c.toNat = 45 ∨ (48 ≤ c.toNat ∧ c.toNat ≤ 57)) ∧ isGap c.toNat = false
  | .mk k t n d e s l f, h, h2 => by
    rw [JV.isN] at h
    rcases h with ⟨rfl, rfl, rfl, rfl, rfl, rfl, rfl, rfl⟩ | ⟨rfl, rfl, rfl, rfl, rfl, rfl, rfl⟩ | ⟨rfl, _⟩ | ⟨rfl, rfl, rfl, rfl, rfl, hv, rfl, rfl⟩ | ⟨rfl, rfl, rfl, rfl, rfl, rfl, hl, rfl⟩ | ⟨rfl, rfl, rfl, rfl, rfl, rfl, rfl, hf, hr⟩
    · rw [JV.put]; exact ⟨110, _, rfl, by decide, rfl⟩
    · rw [JV.put]
      cases t with
      | true => exact ⟨116, _, rfl, by decide, rfl⟩
      | false => exact ⟨102, _, rfl, by decide, rfl⟩
    · exact absurd rfl h2
    · rw [JV.put]; exact ⟨34, _, rfl, by decide, rfl⟩
    · rw [JV.put]
      cases l with
      | nil => exact ⟨91, _, rfl, by decide, rfl⟩
      | cons x xs => rw [JV.putL]; exact ⟨91, _, rfl, by decide, rfl⟩
    · rw [JV.put]
      cases f with
      | nil => exact ⟨123, _, rfl, by decide, rfl⟩
      | cons x xs => obtain ⟨nm, v⟩ := x; rw [JV.putF]; exact ⟨123, _, rfl, by decide, rfl⟩
/-- **A told value that is no number, cut off, is at fault.** -/
theorem parse_cut (x : JV) (hx : x.isN) (h2 : x.kind ≠ 2) (k : Nat) (hk : k < x.put.length) : ∃ p e, parseTo ⟨(x.put.take k).toArray⟩ = .no p e := by
  have hsz : (⟨(x.put.take k).toArray⟩ : ByteArray).size = k := by rw [size_mk, List.length_take]; omega
  have hP : Pre ⟨(x.put.take k).toArray⟩ ⟨x.put.toArray⟩ := by
    have hall : Has ⟨x.put.toArray⟩ 0 (x.put.take k ++ x.put.drop k) := by rw [List.take_append_drop]; have := Has.all ⟨x.put.toArray⟩; simpa using this
    have := hall.left
    unfold Pre
    simpa using this
  generalize (⟨(x.put.take k).toArray⟩ : ByteArray) = u at hsz hP
  unfold parseTo
  cases hv : valF u 64 (gapTo u 0) with
  | no p e => exact ⟨p, e, rfl⟩
  | ok y j =>
    exfalso
    have hlt := valF_lt _ _ _ _ hv
    obtain ⟨c, q, hq, hc, hg⟩ := put_first2 x hx h2
    have hall : Has ⟨x.put.toArray⟩ 0 x.put := by have := Has.all ⟨x.put.toArray⟩; simpa using this
    have hb : byteAt u 0 = c.toNat := by
      have hl := gapTo_le u 0
      rw [← hP.byte (i := 0) (by omega)]
      rw [hq] at hall ⊢
      exact hall.head.1
    have hg0 : gapTo u 0 = 0 := gap_stay (by rw [hb]; exact hg)
    rw [hg0] at hv
    have h3 := valF_pre2 hP 64 0 y j hv (.inr (by rw [hb]; exact hc))
    have h4 := valF_le _ 64 x.deep 0 y j h3
    rw [back_whole x hx (by omega)] at h4
    injection h4 with h5 h6
    have h7 := valF_inn u 64 0 (Nat.zero_le _)
    rw [hv] at h7
    have h8 : j ≤ u.size := h7
    omega
end Go.Proofs.YtmfijfcikecglaaGreatDoor
end
