/- Records, plainly: counts, texts, places, outcomes, events; what is told is read again, in one form alone. append of a slice of numbers to a row of the call's own, as a step of a region. Records in memory: bytes as they are read and written; bits as sums; record.count and text write. record's reader: cut, count, text. record's reader: count, text. -/
import Derived.Test.YtkdeleafgailhaaGreatDoorH1
import Derived.Test.YtkdeleafgailhaaGreatDoorH5
import Derived.WalkKit
import Derived.Test.YtkdeleafgailhaaGreatDoorH8
import Derived.Lib.VarintBits
import Derived.Lib.AppendStr
import Derived.Test.YtkdeleafgailhaaGreatDoorH10
import Derived.Deep.RegionHeld3
import Derived.Deep.RegionWith
section
set_option linter.unusedVariables false
set_option linter.unusedSimpArgs false
namespace Go.Proofs.YtkdeleafgailhaaGreatDoor
open Go Go.RowKit Go.Proofs.YtkdeleafgailhaaGreatDoorW.PrintWords

/-! ### counts -/
def cntE (n : Nat) : List UInt8 := if n < 128 then [UInt8.ofNat n] else UInt8.ofNat (n % 128 + 128) :: cntE (n / 128)
termination_by n
decreasing_by omega
/-- k bytes are still let in; i are read. -/
def cntG : Nat → Nat → Nat → List UInt8 → Option (Nat × List UInt8)
  | 0, _, _, _ => none
  | _ + 1, _, _, [] => none
  | k + 1, i, n, c :: bs => if 0 < i ∧ c.toNat = 0 then none else if c.toNat < 128 then some (n + c.toNat * 128 ^ i, bs) else cntG k (i + 1) (n + (c.toNat - 128) * 128 ^ i) bs
def cntD (b : List UInt8) : Option (Nat × List UInt8) := cntG 8 0 0 b
theorem cntE_small {n : Nat} (h : n < 128) : cntE n = [UInt8.ofNat n] := by rw [cntE, if_pos h]
theorem cntE_great {n : Nat} (h : ¬ n < 128) : cntE n = UInt8.ofNat (n % 128 + 128) :: cntE (n / 128) := by rw [cntE, if_neg h]
theorem u8_toNat {n : Nat} (h : n < 256) : (UInt8.ofNat n).toNat = n := by
  rw [UInt8.toNat_ofNat']; exact Nat.mod_eq_of_lt h
theorem cntE_len : ∀ (k n : Nat), 0 < k → n < 128 ^ k → (cntE n).length ≤ k
  | 0, _, h, _ => absurd h (by omega)
  | k + 1, n, _, h => by
    by_cases hs : n < 128
    · rw [cntE_small hs]; simp
    · rw [cntE_great hs, List.length_cons]
      have hk : 0 < k := by
        rcases Nat.eq_zero_or_pos k with rfl | hk
        · simp at h; omega
        · exact hk
      have hp : 128 ^ (k + 1) = 128 ^ k * 128 := Nat.pow_succ ..
      have := cntE_len k (n / 128) hk (by rw [hp] at h; omega)
      omega
theorem cntG_ext : ∀ (k i n : Nat) (b q r : List UInt8) (m : Nat), cntG k i n b = some (m, r) → cntG k i n (b ++ q) = some (m, r ++ q)
  | 0, _, _, _, _, _, _, h => by simp [cntG] at h
  | _ + 1, _, _, [], _, _, _, h => by simp [cntG] at h
  | k + 1, i, n, c :: bs, q, r, m, h => by
    rw [List.cons_append]
    rw [cntG] at h ⊢
    by_cases h0 : 0 < i ∧ c.toNat = 0
    · rw [if_pos h0] at h; cases h
    · rw [if_neg h0] at h ⊢
      by_cases hs : c.toNat < 128
      · rw [if_pos hs] at h ⊢
        injection h with h
        injection h with h1 h2
        subst h1 h2
        rfl
      · rw [if_neg hs] at h ⊢
        exact cntG_ext k (i + 1) _ bs q r m h
theorem cntG_E : ∀ (k i n m : Nat) (rest : List UInt8), 0 < k → m < 128 ^ k → (0 < i → m ≠ 0) → cntG k i n (cntE m ++ rest) = some (n + m * 128 ^ i, rest)
  | 0, _, _, _, _, h, _, _ => absurd h (by omega)
  | k + 1, i, n, m, rest, _, hm, h0 => by
    by_cases hs : m < 128
    · rw [cntE_small hs]
      show cntG (k + 1) i n (UInt8.ofNat m :: rest) = _
      rw [cntG, u8_toNat (by omega), if_neg (fun h => h0 h.1 h.2), if_pos hs]
    · rw [cntE_great hs, List.cons_append, cntG, u8_toNat (by omega), if_neg (fun h => by omega), if_neg (by omega)]
      have hk : 0 < k := by
        rcases Nat.eq_zero_or_pos k with rfl | hk
        · simp at hm; omega
        · exact hk
      have hp : 128 ^ (k + 1) = 128 ^ k * 128 := Nat.pow_succ ..
      rw [cntG_E k (i + 1) _ (m / 128) rest hk (by rw [hp] at hm; omega) (fun _ => by omega)]
      have hq : 128 ^ (i + 1) = 128 * 128 ^ i := by rw [Nat.pow_succ, Nat.mul_comm]
      have hd : m = m % 128 + (m / 128) * 128 := by omega
      congr 2
      rw [hq, Nat.add_sub_cancel]
      conv => rhs; rw [hd, Nat.add_mul]
      rw [Nat.mul_assoc]
      omega
theorem cntG_inv : ∀ (k i n v : Nat) (b r : List UInt8), cntG k i n b = some (v, r) → ∃ m, v = n + m * 128 ^ i ∧ b = cntE m ++ r ∧ (0 < i → m ≠ 0) ∧ m < 128 ^ k
  | 0, _, _, _, _, _, h => by simp [cntG] at h
  | _ + 1, _, _, _, [], _, h => by simp [cntG] at h
  | k + 1, i, n, v, c :: bs, r, h => by
    rw [cntG] at h
    by_cases h0 : 0 < i ∧ c.toNat = 0
    · rw [if_pos h0] at h; cases h
    · rw [if_neg h0] at h
      by_cases hs : c.toNat < 128
      · rw [if_pos hs] at h
        injection h with h
        injection h with h1 h2
        subst h1 h2
        refine ⟨c.toNat, rfl, ?_, fun hi e => h0 ⟨hi, e⟩, ?_⟩
        · rw [cntE_small hs, UInt8.ofNat_toNat]; rfl
        · have hp : 128 ^ (k + 1) = 128 ^ k * 128 := Nat.pow_succ ..
          have : 0 < 128 ^ k := Nat.pow_pos (by omega)
          omega
      · rw [if_neg hs] at h
        obtain ⟨m, hv, hb, hm0, hm⟩ := cntG_inv k (i + 1) _ v bs r h
        have hc : c.toNat < 256 := c.toNat_lt
        have hm0 := hm0 (by omega)
        refine ⟨(c.toNat - 128) + m * 128, ?_, ?_, fun _ => by omega, ?_⟩
        · have hq : 128 ^ (i + 1) = 128 * 128 ^ i := by rw [Nat.pow_succ, Nat.mul_comm]
          rw [hv, hq, Nat.add_mul, Nat.mul_assoc]
          omega
        · have e1 : ((c.toNat - 128) + m * 128) % 128 = c.toNat - 128 := by omega
          have e2 : ((c.toNat - 128) + m * 128) / 128 = m := by omega
          rw [cntE_great (by omega), e1, e2, show c.toNat - 128 + 128 = c.toNat by omega, UInt8.ofNat_toNat, hb]
          rfl
        · have hp : 128 ^ (k + 1) = 128 ^ k * 128 := Nat.pow_succ ..
          omega
theorem cntD_ext {b q r : List UInt8} {m : Nat} (h : cntD b = some (m, r)) : cntD (b ++ q) = some (m, r ++ q) := cntG_ext 8 0 0 b q r m h
theorem cntD_E (m : Nat) (rest : List UInt8) (hm : m < 72057594037927936) : cntD (cntE m ++ rest) = some (m, rest) := by
  have := cntG_E 8 0 0 m rest (by omega) hm (fun h => absurd h (by omega))
  unfold cntD
  rw [this]
  simp
theorem cntD_inv {v : Nat} {b r : List UInt8} (h : cntD b = some (v, r)) : b = cntE v ++ r ∧ v < 72057594037927936 := by
  obtain ⟨m, hv, hb, _, hm⟩ := cntG_inv 8 0 0 v b r h
  have : v = m := by rw [hv]; simp
  subst this
  exact ⟨hb, hm⟩

/-! ### texts -/
def textE (s : List UInt8) : List UInt8 := cntE s.length ++ s
def textD (b : List UInt8) : Option (List UInt8 × List UInt8) := match cntD b with
  | none => none
  | some (n, r) => if n ≤ r.length then some (r.take n, r.drop n) else none
theorem textD_ext {b q r s : List UInt8} (h : textD b = some (s, r)) : textD (b ++ q) = some (s, r ++ q) := by
  unfold textD at h ⊢
  cases hc : cntD b with
  | none => rw [hc] at h; cases h
  | some p =>
    obtain ⟨n, r0⟩ := p
    rw [hc] at h
    rw [cntD_ext hc]
    dsimp only at h ⊢
    by_cases hn : n ≤ r0.length
    · rw [if_pos hn] at h
      injection h with h
      injection h with h1 h2
      rw [if_pos (by rw [List.length_append]; omega), List.take_append_of_le_length hn, List.drop_append_of_le_length hn, h1, h2]
    · rw [if_neg hn] at h; cases h
theorem textD_E (s rest : List UInt8) (hs : s.length < 72057594037927936) : textD (textE s ++ rest) = some (s, rest) := by
  unfold textD textE
  rw [List.append_assoc, cntD_E _ _ hs]
  dsimp only
  rw [if_pos (by rw [List.length_append]; omega), List.take_left, List.drop_left]
theorem textD_inv {b r s : List UInt8} (h : textD b = some (s, r)) : b = textE s ++ r := by
  unfold textD at h
  cases hc : cntD b with
  | none => rw [hc] at h; cases h
  | some p =>
    obtain ⟨n, r0⟩ := p
    rw [hc] at h
    dsimp only at h
    by_cases hn : n ≤ r0.length
    · rw [if_pos hn] at h
      injection h with h
      injection h with h1 h2
      obtain ⟨hb, _⟩ := cntD_inv hc
      have hl : s.length = n := by rw [← h1, List.length_take]; omega
      unfold textE
      rw [hb, hl, List.append_assoc, ← h1, ← h2, List.take_append_drop]
    · rw [if_neg hn] at h; cases h

/-! ### places -/
def placeE : List Int → List UInt8
  | [] => []
  | n :: l => cntE n.toNat ++ placeE l
def rep : Nat → List UInt8 → Option (List Int × List UInt8)
  | 0, b => some ([], b)
  | n + 1, b => match cntD b with
    | none => none
    | some (x, b1) => match rep n b1 with
      | none => none
      | some (xs, b2) => some ((x : Int) :: xs, b2)
theorem rep_ext : ∀ (n : Nat) {b q r : List UInt8} {l : List Int}, rep n b = some (l, r) → rep n (b ++ q) = some (l, r ++ q)
  | 0, b, q, r, l, h => by
    rw [rep] at h ⊢
    injection h with h
    injection h with h1 h2
    rw [h1, h2]
  | n + 1, b, q, r, l, h => by
    rw [rep] at h ⊢
    cases hc : cntD b with
    | none => rw [hc] at h; cases h
    | some p =>
      obtain ⟨x, b1⟩ := p
      rw [hc] at h
      rw [cntD_ext hc]
      dsimp only at h ⊢
      cases hr : rep n b1 with
      | none => rw [hr] at h; cases h
      | some p2 =>
        obtain ⟨xs, b2⟩ := p2
        rw [hr] at h
        rw [rep_ext n hr]
        dsimp only at h ⊢
        injection h with h
        injection h with h1 h2
        rw [h1, h2]
theorem rep_E : ∀ (l : List Int) (rest : List UInt8), (∀ n ∈ l, 0 ≤ n ∧ n ≤ 2147483647) → rep l.length (placeE l ++ rest) = some (l, rest)
  | [], rest, _ => rfl
  | n :: l, rest, h => by
    have hn := h n (.head _)
    rw [List.length_cons, rep, placeE, List.append_assoc, cntD_E _ _ (by omega)]
    dsimp only
    rw [rep_E l rest (fun m hm => h m (.tail _ hm))]
    dsimp only
    rw [Int.toNat_of_nonneg hn.1]
theorem rep_inv : ∀ (n : Nat) {b r : List UInt8} {l : List Int}, rep n b = some (l, r) → b = placeE l ++ r ∧ l.length = n ∧ ∀ m ∈ l, 0 ≤ m
  | 0, b, r, l, h => by
    rw [rep] at h
    injection h with h
    injection h with h1 h2
    subst h1 h2
    exact ⟨rfl, rfl, fun m hm => nomatch hm⟩
  | n + 1, b, r, l, h => by
    rw [rep] at h
    cases hc : cntD b with
    | none => rw [hc] at h; cases h
    | some p =>
      obtain ⟨x, b1⟩ := p
      rw [hc] at h
      dsimp only at h
      cases hr : rep n b1 with
      | none => rw [hr] at h; cases h
      | some p2 =>
        obtain ⟨xs, b2⟩ := p2
        rw [hr] at h
        dsimp only at h
        injection h with h
        injection h with h1 h2
        obtain ⟨e1, e2, e3⟩ := rep_inv n hr
        obtain ⟨hb, _⟩ := cntD_inv hc
        subst h1 h2
        refine ⟨?_, by rw [List.length_cons, e2], fun m hm => ?_⟩
        · rw [placeE, Int.toNat_natCast, List.append_assoc, ← e1]; exact hb
        · rcases List.mem_cons.1 hm with rfl | hm
          · omega
          · exact e3 m hm
theorem placeE_len : ∀ (l : List Int), (∀ n ∈ l, 0 ≤ n ∧ n ≤ 2147483647) → (placeE l).length ≤ 5 * l.length
  | [], _ => by simp [placeE]
  | n :: l, h => by
    have hn := h n (.head _)
    have h1 := cntE_len 5 n.toNat (by omega) (by simp; omega)
    have h2 := placeE_len l (fun m hm => h m (.tail _ hm))
    rw [placeE, List.length_append, List.length_cons]
    omega
def placeD (b : List UInt8) : Option (List Int × List UInt8) := match cntD b with
  | none => none
  | some (n, r) => if n ≤ 192 then rep n r else none
end Go.Proofs.YtkdeleafgailhaaGreatDoor
end
section
set_option linter.unusedVariables false
set_option linter.unusedSimpArgs false
namespace Go.Proofs.YtkdeleafgailhaaGreatDoor
open Go Go.RowKit Go.Proofs.YtkdeleafgailhaaGreatDoorW.PrintWords

section
variable {P : Program} {ops : Array Oper} {o : Oper} {a : Act} {Q : Exit → Act → World → Prop} {Kc : Act → World → Prop}
theorem row_append_step {w0 W : World} (base : Nat) (hw : Region.wanted o (yielded ops a.tmps) = true) (s x : Operand) (t e : TypeId) (k : IntKind) (bytes : Nat)
    (ho : o.op = .call { callee := .builtin .append, args := #[s, x], argTypes := #[t, t] })
    (ht : P.underlying t = some (.slice e)) (hinfo : (P.info? e).map (fun i => (i.zero, i.size, i.bytes)) = some (some (.int k 0), 1, bytes)) (hb0 : 0 < bytes)
    (v : Value) (xs ys : List Int) (ad : Addr) (m c : Nat) (hs : a.eval s = v) (hx : a.eval x = .slice (some ad) m c)
    (HO : W.ownsRow base e 1 v xs.length (nums k xs)) (HR : ReadsInt W k (some ad) m ys) (HB : Below base w0 W) (hbase : base ≤ W.heap.size) (hl : (xs.length + m) * bytes ≤ 140737488355328)
    (h : ∀ v1 w1, w1.ownsRow base e 1 v1 (xs ++ ys).length (nums k (xs ++ ys)) → Below base w0 w1 → W.grownBy w1 v.ownBlock → Kc (a.put o.dst v1) w1) :
    if Region.wanted o (yielded ops a.tmps) = true then Oper.wp P o a W Kc Q else Kc (a.put o.dst undef) W := by
  obtain ⟨i0, hi, hzz⟩ := Option.map_eq_some_iff.1 hinfo
  simp only [Prod.mk.injEq] at hzz
  obtain ⟨hz0, hz1, hz2⟩ := hzz
  have hm : ys.length = m := HR.1
  have hlen : xs.length + m ≤ 140737488355328 := Nat.le_trans (Nat.le_mul_of_pos_right _ hb0) hl
  have hcells : ∀ j u, (nums k ys)[j]? = some u → W.cell? (ad.add j) = some u := by
    intro j u hu
    have hj : j < ys.length := by
      rcases Nat.lt_or_ge j ys.length with h | h
      · exact h
      · simp [nums, List.getElem?_eq_none h] at hu
    obtain ⟨ad', h', hc⟩ := HR.2.2 (by omega)
    injection h' with h'
    subst h'
    have := hc j (by omega)
    simp [nums, List.getElem?_eq_getElem hj] at hu
    subst hu
    rw [this]
    simp [List.getD_eq_getElem?_getD, List.getElem?_eq_getElem hj]
  obtain ⟨v1, w1, hr, h2, h3, _, h5⟩ := run_append_own_at (P := P) W base t o.type e i0 (.int k 0) 1 bytes ht hi hz0 hz1 hz2 rfl (by omega) v xs.length (nums k xs) HO ad m c (nums k ys) (by simp [nums, hm]) hcells
    (by intro u hu; simp only [nums, List.mem_map] at hu; obtain ⟨q, _, rfl⟩ := hu; rfl) (by simp only [maxLen]; omega) hl hbase
  rw [if_pos hw]
  unfold Oper.wp execOp
  simp only [ho, resolve, invoke, builtin, Sem.run_bind, Sem.run_pure, Result.andThen_ok, List.map_toArray, List.map_cons, List.map_nil, hs, hx, hr]
  exact h v1 w1 (by simpa [nums, hm] using h2) (HB.grown h3 hbase (own_base HO)) h3
end
end Go.Proofs.YtkdeleafgailhaaGreatDoor
end
section
set_option linter.unusedVariables false
set_option linter.unusedSimpArgs false
namespace Go.Proofs.YtkdeleafgailhaaGreatDoor
open Go Go.RowKit Go.Proofs.YtkdeleafgailhaaGreatDoorW.PrintWords

def bint (l : List UInt8) : List Int := l.map fun c => (c.toNat : Int)
theorem bint_len (l : List UInt8) : (bint l).length = l.length := by simp [bint]
theorem bint_app (l m : List UInt8) : bint (l ++ m) = bint l ++ bint m := by simp [bint]
theorem bint_one (c : UInt8) : bint [c] = [(c.toNat : Int)] := rfl
theorem strOf_bint (l : List UInt8) : strOfNums (bint l) = ⟨l.toArray⟩ := by
  unfold strOfNums bint
  rw [List.map_map]
  congr 2
  induction l with
  | nil => rfl
  | cons c l ih => rw [List.map_cons, ih]; congr 1; simp
theorem bytesOf_bint (l : List UInt8) : bytesOf ⟨l.toArray⟩ = bint l := by simp [bytesOf, bint]
theorem bint_take (l : List UInt8) (n : Nat) : bint (l.take n) = (bint l).take n := by simp [bint]
theorem bint_drop (l : List UInt8) (n : Nat) : bint (l.drop n) = (bint l).drop n := by simp [bint]

/-! ### bits -/
theorem or_128 (k : Nat) : bits .or .u8 ((k : Int) % 256) 128 = (k : Int) % 128 + 128 := by
  have key : ∀ n : Fin 256, bits .or .u8 (n.val : Int) 128 = ((n.val % 128 + 128 : Nat) : Int) := by decide +kernel
  have := key ⟨k % 256, by omega⟩
  simp only at this
  have e : (k : Int) % 256 = ((k % 256 : Nat) : Int) := by omega
  rw [e, this]
  omega
theorem wraps_i64 (n : Int) (h₀ : 0 ≤ n) (h₁ : n < 2 ^ 63) : IntKind.i64.wrap n = n := by rw [IntKind.wrap_i64]; omega
theorem i64_or (i : Nat) (y x : Int) (hy₀ : 0 ≤ y) (hy : y < 2 ^ i) (hy₁ : y < 2 ^ 63) (hx₀ : 0 ≤ x) (hx : x % 2 ^ i = 0) (hx₁ : x < 2 ^ 63) : bits .or .i64 y x = y + x :=
  bits_join_low .i64 63 (by decide) wraps_i64 i y x hy₀ hy hy₁ hx₀ hx hx₁

/-! ### a row of bytes of the call's own -/
def BOwn (base : Nat) (v : Value) (xs : List UInt8) (w : World) : Prop := w.ownsRow base 5 1 v xs.length (nums .u8 (bint xs))
theorem BOwn.below {base : Nat} {v : Value} {xs : List UInt8} {w w' : World} (h : BOwn base v xs w) (hb : Below w.heap.size w w') : BOwn base v xs w' := pw_own_below h hb
theorem BOwn.slice {base : Nat} {v : Value} {xs : List UInt8} {w : World} (h : BOwn base v xs w) : ∃ A c, v = .slice A xs.length c := own_slice h
theorem BOwn.reads {base : Nat} {v : Value} {xs : List UInt8} {w : World} (h : BOwn base v xs w) : ∃ A c, v = .slice A xs.length c ∧ ReadsInt w .u8 A xs.length (bint xs) := own_reads h
theorem BOwn.move {base : Nat} {v : Value} {xs : List UInt8} {w w' : World} (h : BOwn base v xs w) (hm : ∀ k, v.ownBlock = some k → w'.heap[k]? = w.heap[k]?) : BOwn base v xs w' := own_move h hm
/-- All below base is as it was, and all that is no row of bytes. -/
structure BW (base : Nat) (w w' : World) : Prop where
  low : Below base w w'
  keep : ∀ (k : Nat) (o : Obj), w.heap[k]? = some o → (∀ c fz, o ≠ Obj.cells c 5 fz) → w'.heap[k]? = some o
theorem BW.refl (base : Nat) (w : World) : BW base w w := ⟨Below.refl _ _, fun _ _ h _ => h⟩
theorem BW.trans {base : Nat} {a b c : World} (h : BW base a b) (k : BW base b c) : BW base a c := ⟨h.low.trans k.low, fun i o hi ho => k.keep i o (h.keep i o hi ho) ho⟩
theorem BW.of {base : Nat} {a b : World} (h : Below a.heap.size a b) (hb : base ≤ a.heap.size) : BW base a b := ⟨h.mono hb, fun i o hi _ => (h.block i (Array.getElem?_eq_some_iff.1 hi).1).trans hi⟩
theorem BW.own {base : Nat} {v : Value} {xs : List UInt8} {a b c : World} (h : BW base a b) (hO : BOwn base v xs b) (hs : base ≤ b.heap.size) (hg : b.grownBy c v.ownBlock) : BW base a c :=
  ⟨pw_below_grown h.low _ hs hg (own_base hO), fun i o hi ho => by
    have h1 := h.keep i o hi ho
    refine (hg.block i (Array.getElem?_eq_some_iff.1 h1).1 fun e => ?_).trans h1
    obtain ⟨c, hc⟩ := own_typed hO i e.symm
    rw [h1] at hc
    exact ho _ _ (Option.some.inj hc)⟩

set_option maxRecDepth 100000 in
set_option maxHeartbeats 8000000 in
theorem wcount_any (base : Nat) (v : Value) (xs : List UInt8) (n : Nat) (w : World) (hO : BOwn base v xs w) (hbase : base ≤ w.heap.size) (hn : n < 9223372036854775808) (hl : xs.length ≤ 1099511627776) :
    Calls Tryz.prog 48 #[v, .int .i64 n] w fun e w' => ∃ v1, e = .returned v1 ∧ BOwn base v1 (xs ++ cntE n) w' ∧ BW base w w' := by
  have hcl := cntE_len 9 n (by omega) hn
  obtain ⟨full, hfull⟩ : ∃ full, full = cntE n := ⟨_, rfl⟩
  rw [← hfull] at hcl ⊢
  replace hfull := Aside0.mk hfull
  go_enter Tryz.func48, Tryz.ntmps48
  go_wp2_with fail
  go_loopw [0, 1] (fun q i wr => ∃ (k : Nat) (ys : List UInt8), i = .int .i64 k ∧ k ≤ n ∧ Aside0 (full = ys ++ cntE k) ∧ BOwn base q (xs ++ ys) wr ∧ BW base w wr) (fun _ i _ => (intOf i).toNat)
  case atStart => exact ⟨n, [], rfl, Nat.le_refl _, ⟨hfull.out⟩, by rw [List.append_nil]; exact hO, BW.refl _ _⟩
  case round =>
    obtain ⟨k, ys, rfl, hk, hf, hown, hB⟩ := hrel
    have hyl : ys.length ≤ 9 := by have := congrArg List.length hf.out; rw [List.length_append] at this; omega
    have hbr : base ≤ wr.heap.size := Nat.le_trans hbase hB.low.size
    by_cases hs : k < 128
    · have h1 : ¬ (128 : Int) ≤ (k : Int) := by omega
      have hwr : IntKind.u8.wrap (k : Int) = (k : Int) := by rw [IntKind.wrap_u8]; omega
      have hE := cntE_small hs
      go_wp2_with ((with_reducible refine gate_builtin (b := .append) (xs := #[.tmp 15, .tmp 18]) rfl ?_); at_builtin; refine print_append_num (w0 := wr) base rfl (.tmp 15) (.tmp 18) 49 5 .u8 1 rfl Tryz.underlying49 (by kernel_rfl) (by decide) _ (bint (xs ++ ys)) (k : Int) rfl rfl (by rw [bint_len]; exact hown) (Below.refl _ _) hbr (by rw [bint_len, List.length_append]; omega) ?_; intro v1 w3 hown1 hB1 hg hat; clear hat)
      go_ret
      refine ⟨_, rfl, ?_, hB.own hown hbr hg⟩
      have e1 : bint (xs ++ full) = bint (xs ++ ys) ++ [(k : Int)] := by
        rw [hf.out, hE, ← List.append_assoc, bint_app (xs ++ ys), bint_one, u8_toNat (by omega)]
      unfold BOwn
      rw [e1, ← bint_len, e1]
      exact hown1
    · have h1 : (128 : Int) ≤ (k : Int) := by omega
      have hwr : IntKind.u8.wrap (k : Int) = (k : Int) % 256 := by rw [IntKind.wrap_u8]
      have hor := or_128 k
      have hE := cntE_great hs
      have hsh : ((k : Int)).fdiv (2 ^ min (Int.toNat 7) IntKind.i64.bits) = ((k / 128 : Nat) : Int) := by
        rw [Int.fdiv_eq_ediv_of_nonneg _ (by decide)]
        show (k : Int) / 128 = _
        omega
      go_wp2_with ((with_reducible refine gate_builtin (b := .append) (xs := #[.tmp 9, .tmp 13]) rfl ?_); at_builtin; refine print_append_num (w0 := wr) base rfl (.tmp 9) (.tmp 13) 49 5 .u8 1 rfl Tryz.underlying49 (by kernel_rfl) (by decide) _ (bint (xs ++ ys)) ((k : Int) % 128 + 128) rfl rfl (by rw [bint_len]; exact hown) (Below.refl _ _) hbr (by rw [bint_len, List.length_append]; omega) ?_; intro v1 w3 hown1 hB1 hg hat; clear hat)
      go_roundw
      case rel =>
        refine ⟨k / 128, ys ++ [UInt8.ofNat (k % 128 + 128)], by congr 1, by omega, ⟨by rw [List.append_assoc, hf.out, hE]; rfl⟩, ?_, hB.own hown hbr hg⟩
        have e1 : bint (xs ++ (ys ++ [UInt8.ofNat (k % 128 + 128)])) = bint (xs ++ ys) ++ [(k : Int) % 128 + 128] := by
          rw [← List.append_assoc, bint_app (xs ++ ys), bint_one, u8_toNat (by omega), show ((k % 128 + 128 : Nat) : Int) = (k : Int) % 128 + 128 by omega]
        unfold BOwn
        rw [e1, ← bint_len, e1]
        exact hown1
      case measure => simp [intOf]; omega
set_option maxRecDepth 100000 in
set_option maxHeartbeats 8000000 in
theorem wtext_any (base : Nat) (v : Value) (xs s : List UInt8) (w : World) (hO : BOwn base v xs w) (hbase : base ≤ w.heap.size) (hn : s.length ≤ 1099511627776) (hl : xs.length ≤ 1099511627776) :
    Calls Tryz.prog 47 #[v, .string ⟨s.toArray⟩] w fun e w' => ∃ v1, e = .returned v1 ∧ BOwn base v1 (xs ++ textE s) w' ∧ BW base w w' := by
  have hsz : (⟨s.toArray⟩ : ByteArray).size = s.length := by simp [ByteArray.size]
  have hcl := cntE_len 9 s.length (by omega) (by omega)
  have cC := wcount_any base v xs s.length w hO hbase (by omega) hl
  rw [← hsz] at cC hcl
  have hbo := bytesOf_bint s
  generalize (⟨s.toArray⟩ : ByteArray) = t at *
  replace hbo := Aside0.mk hbo
  have hts : t.size ≤ 1099511627776 := by omega
  replace hsz := Aside0.mk hsz
  go_enter Tryz.func47, Tryz.ntmps47
  go_wp2_with (first
    | (go_at_call 48; refine cC.mono ?_; rintro e w1 ⟨v1, rfl, hO1, hB1⟩; have hb1 : base ≤ w1.heap.size := Nat.le_trans hbase hB1.low.size)
    | ((with_reducible refine gate_builtin (b := .append) (xs := #[.tmp 8, .tmp 9]) rfl ?_); at_builtin; refine print_append_str (w0 := w1) base rfl (.tmp 8) (.tmp 9) 49 9 5 rfl Tryz.underlying49 Tryz.underlying9 (by kernel_rfl) _ (bint (xs ++ cntE t.size)) t rfl rfl (by rw [bint_len]; exact hO1) (Below.refl _ _) hb1 (by rw [bint_len, List.length_append]; omega) ?_; intro v2 w2 hown1 hB2 hg))
  go_ret
  refine ⟨_, rfl, ?_, hB1.own hO1 hb1 hg⟩
  have e1 : bint (xs ++ textE s) = bint (xs ++ cntE t.size) ++ bytesOf t := by
    unfold textE
    rw [hbo.out, ← bint_app, List.append_assoc, hsz.out]
  unfold BOwn
  rw [e1, ← bint_len, e1]
  exact hown1
end Go.Proofs.YtkdeleafgailhaaGreatDoor
end
section
set_option linter.unusedVariables false
set_option linter.unusedSimpArgs false
namespace Go.Proofs.YtkdeleafgailhaaGreatDoor
open Go Go.RowKit Go.Proofs.YtkdeleafgailhaaGreatDoorW.PrintWords

/-- The reader: these bytes are left; is something wrong? -/
structure RB (w0 : World) (r : Nat) (b : List UInt8) (wrong : Bool) (W : World) : Prop where
  blk : ∃ A c, W.heap[r]? = some (.cells #[.slice A b.length c, .bool wrong] 83 (0, 0)) ∧ ReadsInt w0 .u8 A b.length (bint b) ∧ b.length ≤ c
  le : w0.heap.size ≤ r
  low : Below w0.heap.size w0 W
theorem RB.below {w0 : World} {r : Nat} {b : List UInt8} {wrong : Bool} {W W' : World} (h : RB w0 r b wrong W) (hb : Below W.heap.size W W') : RB w0 r b wrong W' := by
  obtain ⟨A, c, h1, h2⟩ := h.blk
  exact ⟨⟨A, c, (hb.block _ (blk_lt h1)).trans h1, h2⟩, h.le, h.low.trans (hb.mono h.low.size)⟩
theorem slice_hm (A : Option Addr) (len c n : Nat) (hn : n ≤ c) (W : World) : (Instr.slice 49 (.slice A len c) none (some (.int .i64 (n : Int))) (some (.int .i64 (n : Int)))).run Tryz.prog W = .ok (.slice A n n) W := by
  obtain ⟨i, hi, hz⟩ := Option.map_eq_some_iff.1 (show (Tryz.prog.info? 5).map (·.size) = some 1 by kernel_rfl)
  have hel : Tryz.prog.elem 49 = 5 := by simp [Program.elem, Tryz.underlying49]
  have hu : Tryz.prog.underlying 49 = some (.slice (Tryz.prog.elem 49)) := by rw [hel]; exact Tryz.underlying49
  have ha : (A.map fun x => x.add 0) = A := by cases A <;> simp [Addr.add]
  rw [run_slice_hm W 49 A len c hu .i64 .i64 n n (by omega) (by omega) (by omega), hel]
  simp [sizeOf, typeInfo, hi, hz, sliced, Result.andThen, ha]
theorem slice_lhm (A : Option Addr) (len c n : Nat) (hn : n ≤ len) (hc : len ≤ c) (W : World) : (Instr.slice 49 (.slice A len c) (some (.int .i64 (n : Int))) (some (.int .i64 (len : Int))) (some (.int .i64 (len : Int)))).run Tryz.prog W = .ok (.slice (if len = n then A else A.map (·.add n)) (len - n) (len - n)) W := by
  obtain ⟨i, hi, hz⟩ := Option.map_eq_some_iff.1 (show (Tryz.prog.info? 5).map (·.size) = some 1 by kernel_rfl)
  have hel : Tryz.prog.elem 49 = 5 := by simp [Program.elem, Tryz.underlying49]
  have hu : Tryz.prog.underlying 49 = some (.slice (Tryz.prog.elem 49)) := by rw [hel]; exact Tryz.underlying49
  rw [run_slice_lhm W 49 A len c hu .i64 .i64 .i64 n len len (by omega) (by omega) (by omega) (by omega), hel]
  simp [sizeOf, typeInfo, hi, hz, sliced, Result.andThen]

set_option maxRecDepth 100000 in
set_option maxHeartbeats 8000000 in
theorem cut_no {w0 : World} {r : Nat} {b : List UInt8} {wrong : Bool} {w : World} (h : RB w0 r b wrong w) (n : Nat) (hn : b.length < n) :
    Calls Tryz.prog 50 #[.pointer (some ⟨r, 0, none⟩), .int .i64 n] w fun e w' => e = .returned (.slice none 0 0) ∧ RB w0 r b true w' ∧ Read r w w' := by
  obtain ⟨A, c, hb, hR, hc⟩ := h.blk
  have hcell := cellAll hb
  have hfz := frozenAll hb
  have h1 : (b.length : Int) < (n : Int) := by omega
  replace hb := Aside0.mk hb
  go_enter Tryz.func50, Tryz.ntmps50
  go_wp2_with fail
  go_ret
  have hW := (Read.refl r w).set_ 1 (.bool true)
  exact ⟨rfl, ⟨⟨A, c, blk_set hb.out 1 (.bool true), hR, hc⟩, h.le, h.low.trans (hW.below h.le h.low.size)⟩, hW⟩
set_option maxRecDepth 100000 in
set_option maxHeartbeats 8000000 in
theorem cut_ok {w0 : World} {r : Nat} {b : List UInt8} {wrong : Bool} {w : World} (h : RB w0 r b wrong w) (n : Nat) (hn : n ≤ b.length) :
    Calls Tryz.prog 50 #[.pointer (some ⟨r, 0, none⟩), .int .i64 n] w fun e w' => ∃ A, e = .returned (.slice A n n) ∧ ReadsInt w0 .u8 A n (bint (b.take n)) ∧ RB w0 r (b.drop n) wrong w' ∧ Read r w w' := by
  obtain ⟨A, c, hb, hR, hc⟩ := h.blk
  have hcell := cellAll hb
  have hcellD : ∀ j, w.drew.cell? ⟨r, j, none⟩ = (#[Value.slice A b.length c, Value.bool wrong])[j]? := cellAll (w := w.drew) hb
  have hfz := frozenAll hb
  have h1 : ¬ (b.length : Int) < (n : Int) := by omega
  have hs1 := slice_hm A b.length c n (by omega)
  have hs2 := slice_lhm A b.length c n hn hc
  have hl : (b.drop n).length = b.length - n := List.length_drop
  have hR1 : ReadsInt w0 .u8 A n (bint (b.take n)) := by
    rw [bint_take]; exact ReadsOf.take_ hR n hn
  have hR2 : ReadsInt w0 .u8 (if b.length = n then A else A.map (·.add n)) (b.drop n).length (bint (b.drop n)) := by
    rw [bint_drop, hl]; exact ReadsOf.drop_ (c := b.length) hR n hn (Nat.le_refl _)
  have hW := (Read.refl r w).set_ 0 (.slice (if b.length = n then A else A.map (·.add n)) (b.length - n) (b.length - n))
  have hWl := hW.below h.le h.low.size
  generalize (if b.length = n then A else A.map (·.add n)) = A2 at *
  have hfin : RB w0 r (b.drop n) wrong (w.setCell ⟨r, 0, none⟩ (.slice A2 (b.length - n) (b.length - n))) ∧ Read r w (w.setCell ⟨r, 0, none⟩ (.slice A2 (b.length - n) (b.length - n))) := by
    refine ⟨⟨⟨A2, b.length - n, ?_, hR2, by omega⟩, h.le, h.low.trans hWl⟩, hW⟩
    rw [hl]
    exact blk_set hb 0 _
  replace hfin := Aside0.mk hfin
  replace hb := Aside0.mk hb
  replace hR1 := Aside0.mk hR1
  replace hR2 := Aside0.mk hR2
  replace hW := Aside0.mk hW
  replace hWl := Aside0.mk hWl
  go_enter Tryz.func50, Tryz.ntmps50
  go_wp2_with fail
  go_region_with (fail)
  all_goals (go_wp2_with fail)
  all_goals go_ret
  all_goals first | exact ⟨A, rfl, hR1.out, hfin.out.1.below (below_drew (Below.refl _ _)), hfin.out.2.drewN 1⟩
end Go.Proofs.YtkdeleafgailhaaGreatDoor
end
section
set_option linter.unusedVariables false
set_option linter.unusedSimpArgs false
namespace Go.Proofs.YtkdeleafgailhaaGreatDoor
open Go Go.RowKit Go.Proofs.YtkdeleafgailhaaGreatDoorW.PrintWords

theorem RB.set_wrong {w0 : World} {r : Nat} {b : List UInt8} {wrong : Bool} {w W : World} (h : RB w0 r b wrong W) (hr : Read r w W) : RB w0 r b true (W.setCell ⟨r, 1, none⟩ (.bool true)) ∧ Read r w (W.setCell ⟨r, 1, none⟩ (.bool true)) := by
  obtain ⟨A, c, hb, hR, hc⟩ := h.blk
  have hW := (Read.refl r W).set_ 1 (.bool true)
  exact ⟨⟨⟨A, c, blk_set hb 1 (.bool true), hR, hc⟩, h.le, h.low.trans (hW.below h.le h.low.size)⟩, hr.trans hW⟩
theorem RB.cells {w0 : World} {r : Nat} {b : List UInt8} {wrong : Bool} {W : World} (h : RB w0 r b wrong W) : W.cell? ⟨r, 1, none⟩ = some (.bool wrong) ∧ W.frozen? ⟨r, 1, none⟩ = false := by
  obtain ⟨A, c, hb, _⟩ := h.blk
  exact ⟨cellAll hb 1, frozenAll hb 1⟩
theorem read1 {w0 W : World} {A : Option Addr} {c : UInt8} (hR : ReadsInt w0 .u8 A 1 (bint [c])) (hB : Below w0.heap.size w0 W) : ∃ ad, A = some ad ∧ W.cell? ad = some (.int .u8 c.toNat) := by
  obtain ⟨ad, e, hc⟩ := hR.2.2 (by omega)
  have h0 := hc 0 (by omega)
  refine ⟨ad, e, ?_⟩
  have ha : ad.add 0 = ad := by simp [Addr.add]
  rw [ha] at h0
  exact pw_cell_below hB h0
def CntGives (w0 : World) (r : Nat) (w : World) : Option (Nat × List UInt8) → Ending → World → Prop
  | some (n, rest), e, w' => e = .returned (.int .i64 n) ∧ RB w0 r rest false w' ∧ Read r w w'
  | none, e, w' => e = .returned (.int .i64 0) ∧ (∃ b', RB w0 r b' true w') ∧ Read r w w'

set_option maxRecDepth 100000 in
set_option maxHeartbeats 8000000 in
/-- One that is wrong already. -/
theorem rcount_bad {w0 : World} {r : Nat} {b : List UInt8} {w : World} (h : RB w0 r b true w) :
    Calls Tryz.prog 52 #[.pointer (some ⟨r, 0, none⟩)] w fun e w' => CntGives w0 r w none e w' := by
  have cC : Calls Tryz.prog 50 #[.pointer (some ⟨r, 0, none⟩), .int .i64 1] w fun e w' => ∃ A n, e = .returned (.slice A n n) ∧ (∃ b', RB w0 r b' true w') ∧ Read r w w' := by
    by_cases hl : 1 ≤ b.length
    · refine (cut_ok h 1 hl).mono ?_
      rintro e w' ⟨A, rfl, _, h1, h2⟩
      exact ⟨A, 1, rfl, ⟨_, h1⟩, h2⟩
    · refine (cut_no h 1 (by omega)).mono ?_
      rintro e w' ⟨rfl, h1, h2⟩
      exact ⟨none, 0, rfl, ⟨_, h1⟩, h2⟩
  go_enter Tryz.func52, Tryz.ntmps52
  go_wp2_with fail
  go_loopw [3, 4, 5, 6] (fun n i c q wr => q = .int .i64 0 ∧ wr = w) (fun _ _ _ _ _ => 0)
  case atStart => exact ⟨rfl, rfl⟩
  case round =>
    obtain ⟨rfl, rfl⟩ := hrel
    go_wp2_with (go_at_call 50; refine cC.mono ?_; rintro e w1 ⟨A, n, rfl, ⟨b', h1⟩, hr1⟩; obtain ⟨hc1, hf1⟩ := h1.cells)
    go_ret
    obtain ⟨h2, hr2⟩ := h1.set_wrong hr1
    exact ⟨rfl, ⟨b', h2⟩, hr2⟩


theorem w64_in (n : Int) (h : -9223372036854775808 ≤ n ∧ n ≤ 9223372036854775807) : wrap64 n = n := by unfold wrap64; omega
theorem cntG_no (k i n : Nat) : cntG k i n [] = none := by cases k <;> rfl
theorem cntG_nought (k i n : Nat) (c : UInt8) (bs : List UInt8) (h : 0 < i ∧ c.toNat = 0) : cntG (k + 1) i n (c :: bs) = none := by rw [cntG, if_pos h]
theorem cntG_last (k i n : Nat) (c : UInt8) (bs : List UInt8) (h : ¬ (0 < i ∧ c.toNat = 0)) (hs : c.toNat < 128) : cntG (k + 1) i n (c :: bs) = some (n + c.toNat * 128 ^ i, bs) := by rw [cntG, if_neg h, if_pos hs]
theorem cntG_more (k i n : Nat) (c : UInt8) (bs : List UInt8) (h : ¬ (0 < i ∧ c.toNat = 0)) (hs : ¬ c.toNat < 128) : cntG (k + 1) i n (c :: bs) = cntG k (i + 1) (n + (c.toNat - 128) * 128 ^ i) bs := by rw [cntG, if_neg h, if_neg hs]

set_option maxRecDepth 100000 in
set_option maxHeartbeats 16000000 in
theorem rcount_any {w0 : World} {r : Nat} {b : List UInt8} {w : World} (h : RB w0 r b false w) :
    Calls Tryz.prog 52 #[.pointer (some ⟨r, 0, none⟩)] w fun e w' => CntGives w0 r w (cntD b) e w' := by
  obtain ⟨fin, hfin⟩ : ∃ fin, cntD b = fin := ⟨_, rfl⟩
  rw [hfin]
  unfold cntD at hfin
  replace hfin := Aside0.mk hfin
  have hr0 := Read.refl r w
  go_enter Tryz.func52, Tryz.ntmps52
  go_wp2_with fail
  go_loopw [3, 4, 5, 6] (fun n i c q wr => ∃ (k m : Nat) (bk : List UInt8), q = .int .i64 k ∧ n = .int .i64 m ∧ k ≤ 8 ∧ m < 128 ^ k ∧ Aside0 (cntG (8 - k) k m bk = fin) ∧ RB w0 r bk false wr ∧ Read r w wr) (fun _ _ _ q _ => 8 - (intOf q).toNat)
  case atStart => exact ⟨0, 0, b, rfl, rfl, by omega, by decide, ⟨hfin.out⟩, h, hr0⟩
  case round =>
    obtain ⟨k, m, bk, rfl, rfl, hk, hm, hG, hRB, hrd⟩ := hrel
    by_cases hk8 : k < 8
    · cases bk with
      | nil =>
        rw [cntG_no] at hG
        have hfn := hG.out
        subst hfn
        have h1 : (k : Int) < 8 := by omega
        have cC := cut_no hRB 1 (by simp)
        go_wp2_with (go_at_call 50; refine cC.mono ?_; rintro e w1 ⟨rfl, h1, hr1⟩; obtain ⟨hc1, hf1⟩ := h1.cells)
        go_ret
        obtain ⟨h2, hr2⟩ := h1.set_wrong (hrd.trans hr1)
        exact ⟨rfl, ⟨_, h2⟩, hr2⟩
      | cons c bs =>
        have cC : Calls Tryz.prog 50 #[.pointer (some ⟨r, 0, none⟩), .int .i64 1] wr fun e w' => ∃ ad, e = .returned (.slice (some ad) 1 1) ∧ w'.cell? ad = some (.int .u8 c.toNat) ∧ RB w0 r bs false w' ∧ Read r w w' := by
          refine (cut_ok hRB 1 (by simp)).mono ?_
          rintro e w' ⟨A, rfl, hR, h1, h2⟩
          obtain ⟨ad, rfl, hc⟩ := read1 (c := c) hR h1.low
          exact ⟨ad, rfl, hc, h1, hrd.trans h2⟩
        have hc256 : c.toNat < 256 := c.toNat_lt
        clear hRB hrd h hr0
        by_cases hno : 0 < k ∧ c.toNat = 0
        · rw [show 8 - k = (7 - k) + 1 by omega, cntG_nought _ _ _ _ _ hno] at hG
          have hfn := hG.out
          subst hfn
          obtain ⟨hk0, hc0⟩ := hno
          rw [hc0] at cC
          have h1 : (k : Int) < 8 := by omega
          have h2 : (0 : Int) < (k : Int) := by omega
          go_wp2_with (go_at_call 50; refine cC.mono ?_; rintro e w1 ⟨ad, rfl, hca, h1, hr1⟩; obtain ⟨hc1, hf1⟩ := h1.cells)
          go_ret
          obtain ⟨h2, hr2⟩ := h1.set_wrong hr1
          exact ⟨rfl, ⟨_, h2⟩, hr2⟩
        · have hl := cntG_last (7 - k) k m c bs hno
          have hmo := cntG_more (7 - k) k m c bs hno
          rw [show 7 - k + 1 = 8 - k by omega, hG.out] at hl hmo
          have hks : k = 0 ∨ k = 1 ∨ k = 2 ∨ k = 3 ∨ k = 4 ∨ k = 5 ∨ k = 6 ∨ k = 7 := by omega
          replace hl := Aside0.mk hl
          replace hmo := Aside0.mk hmo
          clear hG
          generalize c.toNat = cn at *
          rcases hks with rfl | rfl | rfl | rfl | rfl | rfl | rfl | rfl
          · have hmm : m < 1 := by simpa using hm
            have hor0 : bits .or .i64 (m : Int) (wrap64 (wrap64 (bits .and .u8 (cn : Int) 127))) = (m : Int) + (cn : Int) % 128 := by
              rw [u8_and127 _ (by omega) (by omega), w64_in ((cn : Int) % 128) (by omega), w64_in _ (by omega), i64_or 0 _ _ (by omega) (by omega) (by omega) (by omega) (by omega) (by omega)]
            clear hm
            by_cases hs : cn < 128
            · have h1 : (cn : Int) < 128 := by omega
              have hfn : fin = some (m + cn * 1, bs) := (hl.out hs)
              have hor : bits .or .i64 (m : Int) (wrap64 (wrap64 (bits .and .u8 (cn : Int) 127))) = ((m + cn * 1 : Nat) : Int) := by rw [hor0]; omega
              clear hor0 hmo hl hmm
              generalize m + cn * 1 = m2 at *
              subst hfn
              go_wp2_with (go_at_call 50; refine cC.mono ?_; rintro e w1 ⟨ad, rfl, hca, hRB1, hr1⟩; obtain ⟨hc1, hf1⟩ := hRB1.cells)
              go_ret
              exact ⟨rfl, hRB1, hr1⟩
            · have h1 : ¬ (cn : Int) < 128 := by omega
              obtain ⟨m2, hm2⟩ : ∃ m2, m2 = m + (cn - 128) * 1 := ⟨_, rfl⟩
              have hfn : cntG 7 1 m2 bs = fin := by rw [hm2]; exact (hmo.out hs).symm
              replace hfn := Aside0.mk hfn
              have hor : bits .or .i64 (m : Int) (wrap64 (wrap64 (bits .and .u8 (cn : Int) 127))) = (m2 : Int) := by rw [hor0]; omega
              have hlt : m2 < 128 ^ 1 := by show _ < 128; omega
              replace hlt := Aside0.mk hlt
              clear hm2 hor0 hmo hl hmm
              go_wp2_with (go_at_call 50; refine cC.mono ?_; rintro e w1 ⟨ad, rfl, hca, hRB1, hr1⟩; obtain ⟨hc1, hf1⟩ := hRB1.cells)
              go_roundw
              case rel => exact ⟨1, m2, bs, rfl, rfl, by omega, hlt.out, ⟨hfn.out⟩, hRB1, hr1⟩
              case measure => simp [intOf]
          · have hmm : m < 128 := by simpa using hm
            have hne : ((cn : Int) == 0) = false := by simp; omega
            have hor0 : bits .or .i64 (m : Int) (wrap64 (wrap64 (bits .and .u8 (cn : Int) 127) * 128)) = (m : Int) + (cn : Int) % 128 * 128 := by
              rw [u8_and127 _ (by omega) (by omega), w64_in ((cn : Int) % 128) (by omega), w64_in _ (by omega), i64_or 7 _ _ (by omega) (by omega) (by omega) (by omega) (by omega) (by omega)]
            clear hm
            by_cases hs : cn < 128
            · have h1 : (cn : Int) < 128 := by omega
              have hfn : fin = some (m + cn * 128, bs) := (hl.out hs)
              have hor : bits .or .i64 (m : Int) (wrap64 (wrap64 (bits .and .u8 (cn : Int) 127) * 128)) = ((m + cn * 128 : Nat) : Int) := by rw [hor0]; omega
              clear hor0 hmo hl hmm
              generalize m + cn * 128 = m2 at *
              subst hfn
              go_wp2_with (go_at_call 50; refine cC.mono ?_; rintro e w1 ⟨ad, rfl, hca, hRB1, hr1⟩; obtain ⟨hc1, hf1⟩ := hRB1.cells)
              go_ret
              exact ⟨rfl, hRB1, hr1⟩
            · have h1 : ¬ (cn : Int) < 128 := by omega
              obtain ⟨m2, hm2⟩ : ∃ m2, m2 = m + (cn - 128) * 128 := ⟨_, rfl⟩
              have hfn : cntG 6 2 m2 bs = fin := by rw [hm2]; exact (hmo.out hs).symm
              replace hfn := Aside0.mk hfn
              have hor : bits .or .i64 (m : Int) (wrap64 (wrap64 (bits .and .u8 (cn : Int) 127) * 128)) = (m2 : Int) := by rw [hor0]; omega
              have hlt : m2 < 128 ^ 2 := by show _ < 16384; omega
              replace hlt := Aside0.mk hlt
              clear hm2 hor0 hmo hl hmm
              go_wp2_with (go_at_call 50; refine cC.mono ?_; rintro e w1 ⟨ad, rfl, hca, hRB1, hr1⟩; obtain ⟨hc1, hf1⟩ := hRB1.cells)
              go_roundw
              case rel => exact ⟨2, m2, bs, rfl, rfl, by omega, hlt.out, ⟨hfn.out⟩, hRB1, hr1⟩
              case measure => simp [intOf]
          · have hmm : m < 16384 := by simpa using hm
            have hne : ((cn : Int) == 0) = false := by simp; omega
            have hor0 : bits .or .i64 (m : Int) (wrap64 (wrap64 (bits .and .u8 (cn : Int) 127) * 16384)) = (m : Int) + (cn : Int) % 128 * 16384 := by
              rw [u8_and127 _ (by omega) (by omega), w64_in ((cn : Int) % 128) (by omega), w64_in _ (by omega), i64_or 14 _ _ (by omega) (by omega) (by omega) (by omega) (by omega) (by omega)]
            clear hm
            by_cases hs : cn < 128
            · have h1 : (cn : Int) < 128 := by omega
              have hfn : fin = some (m + cn * 16384, bs) := (hl.out hs)
              have hor : bits .or .i64 (m : Int) (wrap64 (wrap64 (bits .and .u8 (cn : Int) 127) * 16384)) = ((m + cn * 16384 : Nat) : Int) := by rw [hor0]; omega
              clear hor0 hmo hl hmm
              generalize m + cn * 16384 = m2 at *
              subst hfn
              go_wp2_with (go_at_call 50; refine cC.mono ?_; rintro e w1 ⟨ad, rfl, hca, hRB1, hr1⟩; obtain ⟨hc1, hf1⟩ := hRB1.cells)
              go_ret
              exact ⟨rfl, hRB1, hr1⟩
            · have h1 : ¬ (cn : Int) < 128 := by omega
              obtain ⟨m2, hm2⟩ : ∃ m2, m2 = m + (cn - 128) * 16384 := ⟨_, rfl⟩
              have hfn : cntG 5 3 m2 bs = fin := by rw [hm2]; exact (hmo.out hs).symm
              replace hfn := Aside0.mk hfn
              have hor : bits .or .i64 (m : Int) (wrap64 (wrap64 (bits .and .u8 (cn : Int) 127) * 16384)) = (m2 : Int) := by rw [hor0]; omega
              have hlt : m2 < 128 ^ 3 := by show _ < 2097152; omega
              replace hlt := Aside0.mk hlt
              clear hm2 hor0 hmo hl hmm
              go_wp2_with (go_at_call 50; refine cC.mono ?_; rintro e w1 ⟨ad, rfl, hca, hRB1, hr1⟩; obtain ⟨hc1, hf1⟩ := hRB1.cells)
              go_roundw
              case rel => exact ⟨3, m2, bs, rfl, rfl, by omega, hlt.out, ⟨hfn.out⟩, hRB1, hr1⟩
              case measure => simp [intOf]
          · have hmm : m < 2097152 := by simpa using hm
            have hne : ((cn : Int) == 0) = false := by simp; omega
            have hor0 : bits .or .i64 (m : Int) (wrap64 (wrap64 (bits .and .u8 (cn : Int) 127) * 2097152)) = (m : Int) + (cn : Int) % 128 * 2097152 := by
              rw [u8_and127 _ (by omega) (by omega), w64_in ((cn : Int) % 128) (by omega), w64_in _ (by omega), i64_or 21 _ _ (by omega) (by omega) (by omega) (by omega) (by omega) (by omega)]
            clear hm
            by_cases hs : cn < 128
            · have h1 : (cn : Int) < 128 := by omega
              have hfn : fin = some (m + cn * 2097152, bs) := (hl.out hs)
              have hor : bits .or .i64 (m : Int) (wrap64 (wrap64 (bits .and .u8 (cn : Int) 127) * 2097152)) = ((m + cn * 2097152 : Nat) : Int) := by rw [hor0]; omega
              clear hor0 hmo hl hmm
              generalize m + cn * 2097152 = m2 at *
              subst hfn
              go_wp2_with (go_at_call 50; refine cC.mono ?_; rintro e w1 ⟨ad, rfl, hca, hRB1, hr1⟩; obtain ⟨hc1, hf1⟩ := hRB1.cells)
              go_ret
              exact ⟨rfl, hRB1, hr1⟩
            · have h1 : ¬ (cn : Int) < 128 := by omega
              obtain ⟨m2, hm2⟩ : ∃ m2, m2 = m + (cn - 128) * 2097152 := ⟨_, rfl⟩
              have hfn : cntG 4 4 m2 bs = fin := by rw [hm2]; exact (hmo.out hs).symm
              replace hfn := Aside0.mk hfn
              have hor : bits .or .i64 (m : Int) (wrap64 (wrap64 (bits .and .u8 (cn : Int) 127) * 2097152)) = (m2 : Int) := by rw [hor0]; omega
              have hlt : m2 < 128 ^ 4 := by show _ < 268435456; omega
              replace hlt := Aside0.mk hlt
              clear hm2 hor0 hmo hl hmm
              go_wp2_with (go_at_call 50; refine cC.mono ?_; rintro e w1 ⟨ad, rfl, hca, hRB1, hr1⟩; obtain ⟨hc1, hf1⟩ := hRB1.cells)
              go_roundw
              case rel => exact ⟨4, m2, bs, rfl, rfl, by omega, hlt.out, ⟨hfn.out⟩, hRB1, hr1⟩
              case measure => simp [intOf]
          · have hmm : m < 268435456 := by simpa using hm
            have hne : ((cn : Int) == 0) = false := by simp; omega
            have hor0 : bits .or .i64 (m : Int) (wrap64 (wrap64 (bits .and .u8 (cn : Int) 127) * 268435456)) = (m : Int) + (cn : Int) % 128 * 268435456 := by
              rw [u8_and127 _ (by omega) (by omega), w64_in ((cn : Int) % 128) (by omega), w64_in _ (by omega), i64_or 28 _ _ (by omega) (by omega) (by omega) (by omega) (by omega) (by omega)]
            clear hm
            by_cases hs : cn < 128
            · have h1 : (cn : Int) < 128 := by omega
              have hfn : fin = some (m + cn * 268435456, bs) := (hl.out hs)
              have hor : bits .or .i64 (m : Int) (wrap64 (wrap64 (bits .and .u8 (cn : Int) 127) * 268435456)) = ((m + cn * 268435456 : Nat) : Int) := by rw [hor0]; omega
              clear hor0 hmo hl hmm
              generalize m + cn * 268435456 = m2 at *
              subst hfn
              go_wp2_with (go_at_call 50; refine cC.mono ?_; rintro e w1 ⟨ad, rfl, hca, hRB1, hr1⟩; obtain ⟨hc1, hf1⟩ := hRB1.cells)
              go_ret
              exact ⟨rfl, hRB1, hr1⟩
            · have h1 : ¬ (cn : Int) < 128 := by omega
              obtain ⟨m2, hm2⟩ : ∃ m2, m2 = m + (cn - 128) * 268435456 := ⟨_, rfl⟩
              have hfn : cntG 3 5 m2 bs = fin := by rw [hm2]; exact (hmo.out hs).symm
              replace hfn := Aside0.mk hfn
              have hor : bits .or .i64 (m : Int) (wrap64 (wrap64 (bits .and .u8 (cn : Int) 127) * 268435456)) = (m2 : Int) := by rw [hor0]; omega
              have hlt : m2 < 128 ^ 5 := by show _ < 34359738368; omega
              replace hlt := Aside0.mk hlt
              clear hm2 hor0 hmo hl hmm
              go_wp2_with (go_at_call 50; refine cC.mono ?_; rintro e w1 ⟨ad, rfl, hca, hRB1, hr1⟩; obtain ⟨hc1, hf1⟩ := hRB1.cells)
              go_roundw
              case rel => exact ⟨5, m2, bs, rfl, rfl, by omega, hlt.out, ⟨hfn.out⟩, hRB1, hr1⟩
              case measure => simp [intOf]
          · have hmm : m < 34359738368 := by simpa using hm
            have hne : ((cn : Int) == 0) = false := by simp; omega
            have hor0 : bits .or .i64 (m : Int) (wrap64 (wrap64 (bits .and .u8 (cn : Int) 127) * 34359738368)) = (m : Int) + (cn : Int) % 128 * 34359738368 := by
              rw [u8_and127 _ (by omega) (by omega), w64_in ((cn : Int) % 128) (by omega), w64_in _ (by omega), i64_or 35 _ _ (by omega) (by omega) (by omega) (by omega) (by omega) (by omega)]
            clear hm
            by_cases hs : cn < 128
            · have h1 : (cn : Int) < 128 := by omega
              have hfn : fin = some (m + cn * 34359738368, bs) := (hl.out hs)
              have hor : bits .or .i64 (m : Int) (wrap64 (wrap64 (bits .and .u8 (cn : Int) 127) * 34359738368)) = ((m + cn * 34359738368 : Nat) : Int) := by rw [hor0]; omega
              clear hor0 hmo hl hmm
              generalize m + cn * 34359738368 = m2 at *
              subst hfn
              go_wp2_with (go_at_call 50; refine cC.mono ?_; rintro e w1 ⟨ad, rfl, hca, hRB1, hr1⟩; obtain ⟨hc1, hf1⟩ := hRB1.cells)
              go_ret
              exact ⟨rfl, hRB1, hr1⟩
            · have h1 : ¬ (cn : Int) < 128 := by omega
              obtain ⟨m2, hm2⟩ : ∃ m2, m2 = m + (cn - 128) * 34359738368 := ⟨_, rfl⟩
              have hfn : cntG 2 6 m2 bs = fin := by rw [hm2]; exact (hmo.out hs).symm
              replace hfn := Aside0.mk hfn
              have hor : bits .or .i64 (m : Int) (wrap64 (wrap64 (bits .and .u8 (cn : Int) 127) * 34359738368)) = (m2 : Int) := by rw [hor0]; omega
              have hlt : m2 < 128 ^ 6 := by show _ < 4398046511104; omega
              replace hlt := Aside0.mk hlt
              clear hm2 hor0 hmo hl hmm
              go_wp2_with (go_at_call 50; refine cC.mono ?_; rintro e w1 ⟨ad, rfl, hca, hRB1, hr1⟩; obtain ⟨hc1, hf1⟩ := hRB1.cells)
              go_roundw
              case rel => exact ⟨6, m2, bs, rfl, rfl, by omega, hlt.out, ⟨hfn.out⟩, hRB1, hr1⟩
              case measure => simp [intOf]
          · have hmm : m < 4398046511104 := by simpa using hm
            have hne : ((cn : Int) == 0) = false := by simp; omega
            have hor0 : bits .or .i64 (m : Int) (wrap64 (wrap64 (bits .and .u8 (cn : Int) 127) * 4398046511104)) = (m : Int) + (cn : Int) % 128 * 4398046511104 := by
              rw [u8_and127 _ (by omega) (by omega), w64_in ((cn : Int) % 128) (by omega), w64_in _ (by omega), i64_or 42 _ _ (by omega) (by omega) (by omega) (by omega) (by omega) (by omega)]
            clear hm
            by_cases hs : cn < 128
            · have h1 : (cn : Int) < 128 := by omega
              have hfn : fin = some (m + cn * 4398046511104, bs) := (hl.out hs)
              have hor : bits .or .i64 (m : Int) (wrap64 (wrap64 (bits .and .u8 (cn : Int) 127) * 4398046511104)) = ((m + cn * 4398046511104 : Nat) : Int) := by rw [hor0]; omega
              clear hor0 hmo hl hmm
              generalize m + cn * 4398046511104 = m2 at *
              subst hfn
              go_wp2_with (go_at_call 50; refine cC.mono ?_; rintro e w1 ⟨ad, rfl, hca, hRB1, hr1⟩; obtain ⟨hc1, hf1⟩ := hRB1.cells)
              go_ret
              exact ⟨rfl, hRB1, hr1⟩
            · have h1 : ¬ (cn : Int) < 128 := by omega
              obtain ⟨m2, hm2⟩ : ∃ m2, m2 = m + (cn - 128) * 4398046511104 := ⟨_, rfl⟩
              have hfn : cntG 1 7 m2 bs = fin := by rw [hm2]; exact (hmo.out hs).symm
              replace hfn := Aside0.mk hfn
              have hor : bits .or .i64 (m : Int) (wrap64 (wrap64 (bits .and .u8 (cn : Int) 127) * 4398046511104)) = (m2 : Int) := by rw [hor0]; omega
              have hlt : m2 < 128 ^ 7 := by show _ < 562949953421312; omega
              replace hlt := Aside0.mk hlt
              clear hm2 hor0 hmo hl hmm
              go_wp2_with (go_at_call 50; refine cC.mono ?_; rintro e w1 ⟨ad, rfl, hca, hRB1, hr1⟩; obtain ⟨hc1, hf1⟩ := hRB1.cells)
              go_roundw
              case rel => exact ⟨7, m2, bs, rfl, rfl, by omega, hlt.out, ⟨hfn.out⟩, hRB1, hr1⟩
              case measure => simp [intOf]
          · have hmm : m < 562949953421312 := by simpa using hm
            have hne : ((cn : Int) == 0) = false := by simp; omega
            have hor0 : bits .or .i64 (m : Int) (wrap64 (wrap64 (bits .and .u8 (cn : Int) 127) * 562949953421312)) = (m : Int) + (cn : Int) % 128 * 562949953421312 := by
              rw [u8_and127 _ (by omega) (by omega), w64_in ((cn : Int) % 128) (by omega), w64_in _ (by omega), i64_or 49 _ _ (by omega) (by omega) (by omega) (by omega) (by omega) (by omega)]
            clear hm
            by_cases hs : cn < 128
            · have h1 : (cn : Int) < 128 := by omega
              have hfn : fin = some (m + cn * 562949953421312, bs) := (hl.out hs)
              have hor : bits .or .i64 (m : Int) (wrap64 (wrap64 (bits .and .u8 (cn : Int) 127) * 562949953421312)) = ((m + cn * 562949953421312 : Nat) : Int) := by rw [hor0]; omega
              clear hor0 hmo hl hmm
              generalize m + cn * 562949953421312 = m2 at *
              subst hfn
              go_wp2_with (go_at_call 50; refine cC.mono ?_; rintro e w1 ⟨ad, rfl, hca, hRB1, hr1⟩; obtain ⟨hc1, hf1⟩ := hRB1.cells)
              go_ret
              exact ⟨rfl, hRB1, hr1⟩
            · have h1 : ¬ (cn : Int) < 128 := by omega
              obtain ⟨m2, hm2⟩ : ∃ m2, m2 = m + (cn - 128) * 562949953421312 := ⟨_, rfl⟩
              have hfn : cntG 0 8 m2 bs = fin := by rw [hm2]; exact (hmo.out hs).symm
              replace hfn := Aside0.mk hfn
              have hor : bits .or .i64 (m : Int) (wrap64 (wrap64 (bits .and .u8 (cn : Int) 127) * 562949953421312)) = (m2 : Int) := by rw [hor0]; omega
              have hlt : m2 < 128 ^ 8 := by show _ < 72057594037927936; omega
              replace hlt := Aside0.mk hlt
              clear hm2 hor0 hmo hl hmm
              go_wp2_with (go_at_call 50; refine cC.mono ?_; rintro e w1 ⟨ad, rfl, hca, hRB1, hr1⟩; obtain ⟨hc1, hf1⟩ := hRB1.cells)
              go_roundw
              case rel => exact ⟨8, m2, bs, rfl, rfl, by omega, hlt.out, ⟨hfn.out⟩, hRB1, hr1⟩
              case measure => simp [intOf]
    · obtain rfl : k = 8 := by omega
      have hfn := hG.out
      rw [show 8 - 8 = 0 by omega] at hfn
      have hf2 : fin = none := hfn.symm.trans rfl
      subst hf2
      obtain ⟨hc1, hf1⟩ := hRB.cells
      go_wp2_with fail
      go_ret
      obtain ⟨h2, hr2⟩ := hRB.set_wrong hrd
      exact ⟨rfl, ⟨_, h2⟩, hr2⟩
end Go.Proofs.YtkdeleafgailhaaGreatDoor
end
