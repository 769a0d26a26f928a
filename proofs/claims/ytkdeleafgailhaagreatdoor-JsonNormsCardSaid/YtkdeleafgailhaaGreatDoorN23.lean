/- Rows written over and made longer, plainly (for voyageref02's apartLists, apartFields). voyageref02.Like: are two values one? voyageref02.Like: values whose heads are one; Like, whole. There and back, plainly: a text that is told in quotes is read as it. There and back, plainly: texts; what clean gives is valid. -/
import Derived.Test.YtkdeleafgailhaaGreatDoorN22
import Derived.ArgAppend
import Derived.OwnWalk
import Derived.Test.YtkdeleafgailhaaGreatDoorN20
import Derived.Test.YtkdeleafgailhaaGreatDoorN16
import Derived.Lib.MapLaws
import Derived.Lib.ValidLaws
import Derived.Test.YtkdeleafgailhaaGreatDoorN8
section
set_option linter.unusedVariables false
set_option linter.unusedSimpArgs false
namespace Go.Proofs.YtkdeleafgailhaaGreatDoor
open Go Go.RowKit Go.Proofs.YtkdeleafgailhaaGreatDoorW.PrintWords

def rowN : Value → Nat | .slice _ n _ => n | _ => 0
/-- The first m elements of the slice's block have this kind. -/
def RowK (W : World) (q : TypeId) (sz o : Nat) (v : Value) (z : Int) (m : Nat) : Prop := ∀ g, v.ownBlock = some g → ∃ cur, W.heap[g]? = some (.cells cur q (0, 0)) ∧ ∀ p, p < m → cur[p * sz + o]? = some (.int .i64 z)
theorem RowK.move {W W' : World} {q : TypeId} {sz o : Nat} {v : Value} {z : Int} {m : Nat} (h : RowK W q sz o v z m) (hm : ∀ g, v.ownBlock = some g → W'.heap[g]? = W.heap[g]?) : RowK W' q sz o v z m := fun g hg => by
  obtain ⟨cur, h1, h2⟩ := h g hg
  exact ⟨cur, (hm g hg).trans h1, h2⟩
theorem IsRow.lt {W : World} {q : TypeId} {sz B : Nat} {v : Value} (h : IsRow W q sz B v) {g : Nat} (hg : v.ownBlock = some g) : g < W.heap.size := by
  rcases h with rfl | ⟨n, g', cur, ⟨c, rfl, hh, _⟩, _⟩
  · cases hg
  · injection hg with hg
    subst hg
    exact blk_lt hh
theorem IsRow.move {W W' : World} {q : TypeId} {sz B : Nat} {v : Value} (h : IsRow W q sz B v) (hm : ∀ g, v.ownBlock = some g → W'.heap[g]? = W.heap[g]?) : IsRow W' q sz B v := by
  rcases h with rfl | ⟨n, g, cur, h1, h2⟩
  · exact .inl rfl
  · exact .inr ⟨n, g, cur, h1.move (hm g h1.own), h2⟩
theorem IsRow.form {W : World} {q : TypeId} {sz B : Nat} {v : Value} (h : IsRow W q sz B v) : ∃ A m c, v = .slice A m c ∧ m ≤ c ∧ m ≤ B ∧ (A = none → m = 0) ∧ ∀ a, A = some a → a = ⟨a.block, 0, none⟩ ∧ ∃ cur, W.heap[a.block]? = some (.cells cur q (0, 0)) ∧ cur.size = c * sz := by
  rcases h with rfl | ⟨n, g, cur, ⟨c, rfl, hh, h1, h2, h3⟩, hn⟩
  · exact ⟨none, 0, 0, rfl, Nat.le_refl _, Nat.zero_le _, (fun _ => rfl), fun a ha => by cases ha⟩
  · refine ⟨_, n, c, rfl, h1, hn, (fun ha => by cases ha), fun a ha => ?_⟩
    injection ha with ha
    subst ha
    exact ⟨rfl, cur, hh, h3⟩
theorem IsRow.owns {W : World} {q : TypeId} {sz B : Nat} {v : Value} (h : IsRow W q sz B v) : ∃ inner, W.ownsRow 0 q sz v (rowN v) inner ∧ ∀ g, v.ownBlock = some g → ∃ cur, W.heap[g]? = some (.cells cur q (0, 0)) ∧ inner = cur.toList.take (rowN v * sz) := by
  rcases h with rfl | ⟨n, g, cur, ⟨c, rfl, hh, h1, h2, h3⟩, hn⟩
  · exact ⟨[], own_nil _ _ _ _, fun g hg => by cases hg⟩
  · refine ⟨cur.toList.take (n * sz), ⟨?_, .inr ⟨g, c, cur, rfl, Nat.zero_le _, hh, h1, h2, h3, rfl⟩⟩, fun g' hg => ?_⟩
    · show (cur.toList.take (n * sz)).length = n * sz
      rw [List.length_take, Array.length_toList, h3]
      exact Nat.min_eq_left (Nat.mul_le_mul_right _ h1)
    · injection hg with hg
      subst hg
      exact ⟨cur, hh, rfl⟩
theorem nodup_blk : ∀ {L : List Value}, (blks L).Nodup → ∀ {i j : Nat} {v v' : Value} {g : Nat}, L[i]? = some v → L[j]? = some v' → v.ownBlock = some g → v'.ownBlock = some g → i = j
  | [], _, i, j, v, v', g, h1, _, _, _ => by simp at h1
  | x :: L, hn, i, j, v, v', g, h1, h2, h3, h4 => by
    rw [blks_cons] at hn
    have hn' := List.nodup_append.1 hn
    have mem : ∀ {k : Nat} {u : Value}, L[k]? = some u → u.ownBlock = some g → g ∈ blks L := fun hk hu => List.mem_filterMap.2 ⟨_, List.mem_of_getElem? hk, hu⟩
    have hd : ∀ {u : Value}, x = u → u.ownBlock = some g → g ∈ blks [x] := fun e hu => by subst e; exact List.mem_filterMap.2 ⟨x, List.mem_cons_self, hu⟩
    cases i with
    | zero =>
      cases j with
      | zero => rfl
      | succ j =>
        injection h1 with h1
        exact absurd rfl (hn'.2.2 g (hd h1 h3) g (mem (show L[j]? = some v' from h2) h4))
    | succ i =>
      cases j with
      | zero =>
        injection h2 with h2
        exact absurd rfl (hn'.2.2 g (hd h2 h4) g (mem (show L[i]? = some v from h1) h3))
      | succ j => rw [nodup_blk hn'.2.1 (i := i) (j := j) h1 h2 h3 h4]
theorem mem_blks {L : List Value} {j g : Nat} {v : Value} (h : L[j]? = some v) (hg : v.ownBlock = some g) : g ∈ blks L := List.mem_filterMap.2 ⟨v, List.mem_of_getElem? h, hg⟩

/-! ### written over -/
structure P1 (q : TypeId) (sz o : Nat) (L : List Value) (Wa W : World) (n k : Nat) : Prop where
  os : W.os = Wa.os
  tape : W.tape = Wa.tape
  output : W.output = Wa.output
  size : W.heap.size = Wa.heap.size
  out : ∀ b, b ∉ blks L → W.heap[b]? = Wa.heap[b]?
  same : ∀ (b : Nat) (cs : Array Value), Wa.heap[b]? = some (.cells cs q (0, 0)) → ∃ cs', W.heap[b]? = some (.cells cs' q (0, 0)) ∧ cs'.size = cs.size
  done : ∀ (j : Nat) v, j < n → L[j]? = some v → RowK W q sz o v (100 + (j : Int)) (rowN v)
  now : ∀ v, L[n]? = some v → RowK W q sz o v (100 + (n : Int)) k
theorem P1.refl {q : TypeId} {sz o : Nat} {L : List Value} {Wa : World} {B : Nat} (hL : ∀ v ∈ L, IsRow Wa q sz B v) : P1 q sz o L Wa Wa 0 0 :=
  ⟨rfl, rfl, rfl, rfl, fun _ _ => rfl, fun _ cs h => ⟨cs, h, rfl⟩, (fun j v h => absurd h (Nat.not_lt_zero _)), fun v hv g hg => by
    rcases hL v (List.mem_of_getElem? hv) with rfl | ⟨n, g', cur, ⟨c, rfl, hh, _⟩, _⟩
    · cases hg
    · injection hg with hg
      subst hg
      exact ⟨cur, hh, fun p hp => absurd hp (Nat.not_lt_zero _)⟩⟩
theorem P1.next {q : TypeId} {sz o : Nat} {L : List Value} {Wa W : World} {B n : Nat} {v : Value} (hL : ∀ v ∈ L, IsRow Wa q sz B v) (hv : L[n]? = some v) (h : P1 q sz o L Wa W n (rowN v)) : P1 q sz o L Wa W (n + 1) 0 :=
  ⟨h.os, h.tape, h.output, h.size, h.out, h.same, fun j u hj hu => by
    rcases Nat.lt_or_ge j n with hlt | hge
    · exact h.done j u hlt hu
    · obtain rfl : j = n := by omega
      rw [hv] at hu
      injection hu with hu
      subst hu
      exact h.now v hv, fun u hu g hg => by
    rcases hL u (List.mem_of_getElem? hu) with rfl | ⟨m, g', cur, ⟨c, rfl, hh, _⟩, _⟩
    · cases hg
    · injection hg with hg
      subst hg
      obtain ⟨cs', h1, _⟩ := h.same _ _ hh
      exact ⟨cs', h1, fun p hp => absurd hp (Nat.not_lt_zero _)⟩⟩
/-- One element more. -/
theorem P1.put {q : TypeId} {sz o : Nat} {L : List Value} {Wa W W' : World} {n k g : Nat} {v : Value} (hN : (blks L).Nodup) (h : P1 q sz o L Wa W n k) (hv : L[n]? = some v) (hg : v.ownBlock = some g)
    (hos : W'.os = W.os) (htape : W'.tape = W.tape) (houtp : W'.output = W.output) (hsz : W'.heap.size = W.heap.size) (hfar : ∀ b, b ≠ g → W'.heap[b]? = W.heap[b]?)
    (hin : ∀ cs, W.heap[g]? = some (.cells cs q (0, 0)) → ∃ cs', W'.heap[g]? = some (.cells cs' q (0, 0)) ∧ cs'.size = cs.size ∧ cs'[k * sz + o]? = some (.int .i64 (100 + (n : Int))) ∧ ∀ p, p < k → cs'[p * sz + o]? = cs[p * sz + o]?) : P1 q sz o L Wa W' n (k + 1) :=
  ⟨hos.trans h.os, htape.trans h.tape, houtp.trans h.output, hsz.trans h.size, fun b hb => (hfar b (fun e => hb (e ▸ mem_blks hv hg))).trans (h.out b hb), fun b cs hb => by
    obtain ⟨c1, h1, h2⟩ := h.same b cs hb
    by_cases e : b = g
    · subst e
      obtain ⟨c2, h3, h4, _⟩ := hin c1 h1
      exact ⟨c2, h3, h4.trans h2⟩
    · exact ⟨c1, (hfar b e).trans h1, h2⟩, fun j u hj hu => (h.done j u hj hu).move fun b hb => hfar b (fun e => by
      subst e
      have := nodup_blk hN hu hv hb hg
      omega), fun u hu b hb => by
    rw [hv] at hu
    injection hu with hu
    subst hu
    rw [hg] at hb
    injection hb with hb
    subst hb
    obtain ⟨c1, h1, h2⟩ := h.now v hv g hg
    obtain ⟨c2, h3, _, h4, h5⟩ := hin c1 h1
    refine ⟨c2, h3, fun p hp => ?_⟩
    rcases Nat.lt_or_ge p k with hlt | hge
    · exact (h5 p hlt).trans (h2 p hlt)
    · obtain rfl : p = k := by omega
      exact h4⟩
theorem P1.row {q : TypeId} {sz o : Nat} {L : List Value} {Wa W : World} {B n k : Nat} (h : P1 q sz o L Wa W n k) {v : Value} (hr : IsRow Wa q sz B v) : IsRow W q sz B v := by
  rcases hr with rfl | ⟨m, g, cur, ⟨c, rfl, hh, h1, h2, h3⟩, hm⟩
  · exact .inl rfl
  · obtain ⟨cs', h4, h5⟩ := h.same _ _ hh
    exact .inr ⟨m, g, cs', ⟨c, rfl, h4, h1, h2, h5.trans h3⟩, hm⟩

/-! ### made longer -/
structure LongAt (W : World) (q : TypeId) (sz o : Nat) (v v' : Value) (j S1 : Nat) : Prop where
  is : ∃ g c cur, v' = .slice (some ⟨g, 0, none⟩) (rowN v + 6) c ∧ rowN v + 6 ≤ c ∧ W.heap[g]? = some (.cells cur q (0, 0)) ∧ (∀ p, p < rowN v → cur[p * sz + o]? = some (.int .i64 (100 + (j : Int)))) ∧ (∀ p, rowN v ≤ p → p < rowN v + 6 → cur[p * sz + o]? = some (.int .i64 (-100 - (j : Int)))) ∧ (v.ownBlock = some g ∨ S1 ≤ g)
theorem LongAt.move {W W' : World} {q : TypeId} {sz o : Nat} {v v' : Value} {j S1 : Nat} (h : LongAt W q sz o v v' j S1) (hm : ∀ g cur, W.heap[g]? = some (.cells cur q (0, 0)) → v.ownBlock = some g ∨ S1 ≤ g → W'.heap[g]? = W.heap[g]?) : LongAt W' q sz o v v' j S1 := by
  obtain ⟨g, c, cur, h1, h2, h3, h4⟩ := h.is
  exact ⟨g, c, cur, h1, h2, (hm g cur h3 h4.2.2).trans h3, h4⟩
structure P2 (q : TypeId) (sz o : Nat) (L : List Value) (Wb W : World) (ls : List Value) (n : Nat) : Prop where
  low : Below 0 Wb W
  out : ∀ b, b < Wb.heap.size → b ∉ blks L → W.heap[b]? = Wb.heap[b]?
  old : ∀ (j : Nat) v, L[j]? = some v → RowK W q sz o v (100 + (j : Int)) (rowN v)
  rest : ∀ (j : Nat) v, n ≤ j → L[j]? = some v → ∀ g, v.ownBlock = some g → W.heap[g]? = Wb.heap[g]?
  len : ls.length = n
  long : ∀ (j : Nat) v v', j < n → L[j]? = some v → ls[j]? = some v' → LongAt W q sz o v v' j Wb.heap.size
/-- A row that grows: from W (where its time begins) to Wx. -/
structure P3 (q : TypeId) (sz o : Nat) (W Wx : World) (v x : Value) (n k : Nat) (inner : List Value) : Prop where
  own : Wx.ownsRow 0 q sz x (rowN v + k) inner
  k1 : ∀ p, p < rowN v → inner[p * sz + o]? = some (.int .i64 (100 + (n : Int)))
  k2 : ∀ p, rowN v ≤ p → p < rowN v + k → inner[p * sz + o]? = some (.int .i64 (-100 - (n : Int)))
  at_ : x.ownBlock = v.ownBlock ∨ ∃ b, x.ownBlock = some b ∧ W.heap.size ≤ b
  out : ∀ b, b < W.heap.size → some b ≠ v.ownBlock → Wx.heap[b]? = W.heap[b]?
  rk : RowK Wx q sz o v (100 + (n : Int)) (rowN v)
  low : Below 0 W Wx
theorem own_idx {w : World} {base : Nat} {q : TypeId} {sz n o p : Nat} {v : Value} {inner : List Value} (h : w.ownsRow base q sz v n inner) {g : Nat} (hg : v.ownBlock = some g) (ho : o < sz) (hp : p < n) : ∃ cur, w.heap[g]? = some (.cells cur q (0, 0)) ∧ cur[p * sz + o]? = inner[p * sz + o]? := by
  rcases h.2 with ⟨rfl, _⟩ | ⟨g', c, cur, rfl, _, hh, _, _, _, ht⟩
  · cases hg
  · injection hg with hg
    subst hg
    refine ⟨cur, hh, ?_⟩
    have hlt : p * sz + o < n * sz := by
      have h1 : (p + 1) * sz ≤ n * sz := Nat.mul_le_mul_right _ hp
      rw [Nat.add_mul] at h1
      omega
    rw [← ht, List.getElem?_take_of_lt hlt, Array.getElem?_toList]
theorem RowK.of_own {w : World} {base : Nat} {q : TypeId} {sz n o m : Nat} {v x : Value} {inner : List Value} {z : Int} (h : w.ownsRow base q sz x n inner) (hx : x.ownBlock = v.ownBlock) (ho : o < sz) (hm : m ≤ n) (hk : ∀ p, p < m → inner[p * sz + o]? = some (.int .i64 z)) : RowK w q sz o v z m := fun g hg => by
  rcases h.2 with ⟨rfl, _⟩ | ⟨g', c, cur, rfl, _, hh, _, _, _, ht⟩
  · rw [← hx] at hg; cases hg
  · rw [← hx] at hg
    have hg0 := hg
    injection hg with hg
    subst hg
    refine ⟨cur, hh, fun p hp => ?_⟩
    obtain ⟨cur', h1, h2⟩ := own_idx h hg0 ho (show p < n by omega)
    rw [hh] at h1
    injection h1 with h1
    injection h1 with h1
    subst h1
    rw [h2]
    exact hk p hp
theorem P3.start {q : TypeId} {sz o B n : Nat} {L ls : List Value} {Wb W : World} {v : Value} (h : P2 q sz o L Wb W ls n) (hr : IsRow Wb q sz B v) (hv : L[n]? = some v) (ho : o < sz) : ∃ inner, P3 q sz o W W v v n 0 inner := by
  have hr2 : IsRow W q sz B v := hr.move (h.rest n v (Nat.le_refl _) hv)
  obtain ⟨inner, h1, h2⟩ := hr2.owns
  have hrk := h.old n v hv
  refine ⟨inner, h1, fun p hp => ?_, fun p h3 h4 => by omega, .inl rfl, fun _ _ _ => rfl, hrk, Below.refl _ _⟩
  rcases h1.2 with ⟨rfl, h0⟩ | ⟨g, c, cur, he, _, hh, _⟩
  · omega
  · have hg : v.ownBlock = some g := by rw [he]; rfl
    obtain ⟨cur1, q1, q2⟩ := hrk g hg
    obtain ⟨cur2, q3, q4⟩ := own_idx h1 hg ho hp
    rw [q1] at q3
    injection q3 with q3
    injection q3 with q3
    subst q3
    rw [← q4]
    exact q2 p hp
/-- An append leaves it in its place, or in a new block. -/
def Apart1 (W W' : World) (v v' : Value) : Prop := (v'.ownBlock = v.ownBlock ∧ W.grownBy W' v.ownBlock) ∨ ∃ b, v'.ownBlock = some b ∧ W.heap.size ≤ b ∧ W.grownBy W' none
theorem below0_of {W W' : World} {r : Option Nat} (h : W.grownBy W' r) : Below 0 W W' := ⟨h.os, h.tape, h.output, h.size, fun k hk => absurd hk (Nat.not_lt_zero _)⟩
theorem P3.step {q : TypeId} {sz o n k : Nat} {W Wx Wy : World} {v x x' : Value} {inner cs : List Value} (h : P3 q sz o W Wx v x n k inner) (ho : o < sz) (hcs : cs.length = sz) (hz : cs[o]? = some (.int .i64 (-100 - (n : Int)))) (hvl : ∀ g, v.ownBlock = some g → g < W.heap.size)
    (hown : Wy.ownsRow 0 q sz x' (rowN v + k + 1) (inner ++ cs)) (hA : Apart1 Wx Wy x x') : P3 q sz o W Wy v x' n (k + 1) (inner ++ cs) := by
  have hil := h.own.1
  have hk1 : ∀ p, p < rowN v → (inner ++ cs)[p * sz + o]? = some (.int .i64 (100 + (n : Int))) := fun p hp => by
    have hlt : p * sz + o < inner.length := by
      have h1 : (p + 1) * sz ≤ (rowN v + k) * sz := Nat.mul_le_mul_right _ (by omega)
      rw [Nat.add_mul] at h1
      omega
    rw [List.getElem?_append_left hlt]
    exact h.k1 p hp
  have hwx := h.low.size
  refine ⟨hown, hk1, fun p h1 h2 => ?_, ?_, fun b hb hne => ?_, ?_, ?_⟩
  · rcases Nat.lt_or_ge p (rowN v + k) with hlt | hge
    · have hlt' : p * sz + o < inner.length := by
        have h1 : (p + 1) * sz ≤ (rowN v + k) * sz := Nat.mul_le_mul_right _ (by omega)
        rw [Nat.add_mul] at h1
        omega
      rw [List.getElem?_append_left hlt']
      exact h.k2 p h1 hlt
    · obtain rfl : p = rowN v + k := by omega
      rw [List.getElem?_append_right (by omega), hil, Nat.add_sub_cancel_left]
      exact hz
  · rcases hA with ⟨h1, _⟩ | ⟨b, h1, h2, _⟩
    · rw [h1]; exact h.at_
    · exact .inr ⟨b, h1, Nat.le_trans hwx h2⟩
  · rcases hA with ⟨_, h2⟩ | ⟨b', _, _, h2⟩
    · refine (h2.block b (Nat.lt_of_lt_of_le hb hwx) ?_).trans (h.out b hb hne)
      rcases h.at_ with h3 | ⟨b', h3, h4⟩
      · rw [h3]; exact hne
      · rw [h3]; intro e; injection e with e; omega
    · exact (h2.block b (Nat.lt_of_lt_of_le hb hwx) (by simp)).trans (h.out b hb hne)
  · rcases hA with ⟨h1, h2⟩ | ⟨b', _, _, h2⟩
    · rcases h.at_ with h3 | ⟨b', h3, h4⟩
      · exact RowK.of_own hown (h1.trans h3) ho (by omega) hk1
      · refine h.rk.move fun g hg => h2.block g (Nat.lt_of_lt_of_le (hvl g hg) hwx) ?_
        rw [h3]; intro e; injection e with e
        have := hvl g hg
        omega
    · exact h.rk.move fun g hg => h2.block g (Nat.lt_of_lt_of_le (hvl g hg) hwx) (by simp)
  · rcases hA with ⟨_, h2⟩ | ⟨_, _, _, h2⟩
    · exact h.low.trans (below0_of h2)
    · exact h.low.trans (below0_of h2)
theorem P2.next {q : TypeId} {sz o B n : Nat} {L ls : List Value} {Wb W Wy Wz : World} {v x u5 : Value} {inner : List Value} {ET : TypeId} (h : P2 q sz o L Wb W ls n) (hN : (blks L).Nodup) (hL : ∀ v ∈ L, IsRow Wb q sz B v) (hv : L[n]? = some v) (h3 : P3 q sz o W Wy v x n 6 inner) (ho : o < sz)
    (hu : Wy.ownsRow Wb.heap.size ET 1 u5 n ls) (hne : ET ≠ q) (hz : Wy.grownBy Wz u5.ownBlock) : P2 q sz o L Wb Wz (ls ++ [x]) (n + 1) := by
  have hbw := h.low.size
  have hwy := h3.low.size
  have hvl : ∀ {j : Nat} {u : Value} {g : Nat}, L[j]? = some u → u.ownBlock = some g → g < Wb.heap.size := fun hj hg => (hL _ (List.mem_of_getElem? hj)).lt hg
  have u5b : ∀ {k : Nat}, u5.ownBlock = some k → Wb.heap.size ≤ k := fun hk => own_base hu _ hk
  have low_z : ∀ b, b < Wb.heap.size → Wz.heap[b]? = Wy.heap[b]? := fun b hb => hz.block b (by omega) (fun e => by have := u5b e.symm; omega)
  have typ_z : ∀ (b : Nat) (cur : Array Value), Wy.heap[b]? = some (Obj.cells cur q (0, 0)) → Wz.heap[b]? = Wy.heap[b]? := fun b cur hb => hz.block b (blk_lt hb) (own_ne hu hb hne)
  have mid : ∀ b, b < W.heap.size → some b ≠ v.ownBlock → Wy.heap[b]? = W.heap[b]? := h3.out
  refine ⟨(h.low.trans h3.low).trans (below0_of hz), fun b hb hnb => ?_, fun j u hu2 => ?_, fun j u hj hu2 g hg => ?_, by rw [List.length_append, h.len]; rfl, fun j u v' hj hu2 hv' => ?_⟩
  · exact (low_z b hb).trans ((mid b (by omega) (fun e => hnb (mem_blks hv e.symm))).trans (h.out b hb hnb))
  · by_cases e : j = n
    · subst e
      rw [hv] at hu2
      injection hu2 with hu2
      subst hu2
      exact h3.rk.move fun g hg => low_z g (hvl hv hg)
    · refine (h.old j u hu2).move fun g hg => (low_z g (hvl hu2 hg)).trans (mid g (by have := hvl hu2 hg; omega) (fun e2 => e (nodup_blk hN hu2 hv hg e2.symm)))
  · refine (low_z g (hvl hu2 hg)).trans ((mid g (by have := hvl hu2 hg; omega) (fun e2 => ?_)).trans (h.rest j u (by omega) hu2 g hg))
    have := nodup_blk hN hu2 hv hg e2.symm
    omega
  · rcases Nat.lt_or_ge j n with hlt | hge
    · rw [List.getElem?_append_left (by rw [h.len]; exact hlt)] at hv'
      refine (h.long j u v' hlt hu2 hv').move fun g cur hg hor => ?_
      have hgw : g < W.heap.size := blk_lt hg
      have hmid : Wy.heap[g]? = W.heap[g]? := mid g hgw (fun e2 => by
        rcases hor with h4 | h4
        · have := nodup_blk hN hu2 hv h4 e2.symm
          omega
        · have := hvl hv e2.symm
          omega)
      exact (typ_z g cur (hmid.trans hg)).trans hmid
    · obtain rfl : j = n := by omega
      rw [hv] at hu2
      injection hu2 with hu2
      subst hu2
      rw [List.getElem?_append_right (by rw [h.len]; exact Nat.le_refl _), h.len, Nat.sub_self] at hv'
      injection hv' with hv'
      subst hv'
      rcases h3.own.2 with ⟨_, h0⟩ | ⟨g, c, cur, rfl, _, hh, hnc, _⟩
      · omega
      · have hgx : (Value.slice (some ⟨g, 0, none⟩) (rowN v + 6) c).ownBlock = some g := rfl
        have idx : ∀ p, p < rowN v + 6 → cur[p * sz + o]? = inner[p * sz + o]? := fun p hp => by
          obtain ⟨cur', q1, q2⟩ := own_idx h3.own hgx ho hp
          rw [hh] at q1
          injection q1 with q1
          injection q1 with q1
          subst q1
          exact q2
        refine ⟨g, c, cur, rfl, hnc, (typ_z g cur hh).trans hh, fun p hp => (idx p (by omega)).trans (h3.k1 p hp), fun p hp1 hp2 => (idx p hp2).trans (h3.k2 p hp1 hp2), ?_⟩
        rcases h3.at_ with h4 | ⟨b, h4, h5⟩
        · exact .inl (h4.symm.trans hgx)
        · rw [hgx] at h4
          injection h4 with h4
          subst h4
          exact .inr (by omega)
theorem P2.start {q : TypeId} {sz o : Nat} {L : List Value} {Wa Wb : World} {m : Nat} (h : P1 q sz o L Wa Wb m 0) (hm : L.length ≤ m) : P2 q sz o L Wb Wb [] 0 :=
  ⟨Below.refl _ _, fun _ _ _ => rfl, fun j v hj => h.done j v (Nat.lt_of_lt_of_le (List.getElem?_eq_some_iff.1 hj).1 hm) hj, fun _ _ _ _ _ _ => rfl, rfl, fun j v v' hj => absurd hj (Nat.not_lt_zero _)⟩

/-! ### the append -/
section
variable {P : Program} {ops : Array Oper} {rest : List Oper} {o : Oper} {a : Act} {Q : Exit → Act → World → Prop}
theorem own_lower {w : World} {base base' e sz n : Nat} {v : Value} {L : List Value} (h : w.ownsRow base e sz v n L) (hb : base' ≤ base) : w.ownsRow base' e sz v n L := by
  refine ⟨h.1, ?_⟩
  rcases h.2 with h2 | ⟨g, c, cur, h1, hgb, h3⟩
  · exact .inl h2
  · exact .inr ⟨g, c, cur, h1, Nat.le_trans hb hgb, h3⟩
/-- append(v, x), x of several cells; behind 'at_builtin'; the row stays in its block, or lies in a new one. -/
theorem append_apart {W : World} (hgd : o.guard = none) (s x : Operand) (t e : TypeId) (z : Value) (size bytes : Nat)
    (ho : o.op = .call { callee := .builtin .append, args := #[s, x], argTypes := #[t, t] })
    (ht : P.underlying t = some (.slice e)) (hinfo : (P.info? e).map (fun i => (i.zero, i.size, i.bytes)) = some (some z, size, bytes)) (hz : z.cells.size = size) (hs0 : 0 < size) (hb0 : 0 < bytes)
    (v : Value) (n : Nat) (xs ys : List Value) (hs : a.eval s = v) (hx : a.eval x = .slice (some ⟨W.heap.size, 0, none⟩) 1 1) (hys : ys.length = size) (h1 : ∀ u ∈ ys, u.oneCell' = true)
    (HO : W.ownsRow 0 e size v n xs) (hl : (n + 1) * bytes ≤ 140737488355328)
    (h : ∀ v1 w1, w1.ownsRow 0 e size v1 (n + 1) (xs ++ ys) → Apart1 W w1 v v1 → wpList P ops Q rest (a.put o.dst v1) w1) :
    wpList P ops Q (o :: rest) a (W.alloc (.cells ys.toArray e)) := by
  obtain ⟨i0, hi, hzz⟩ := Option.map_eq_some_iff.1 hinfo
  simp only [Prod.mk.injEq] at hzz
  obtain ⟨hz0, hz1, hz2⟩ := hzz
  have hlen : n + 1 ≤ 140737488355328 := Nat.le_trans (Nat.le_mul_of_pos_right _ hb0) hl
  have hnews : ∀ j u, ys[j]? = some u → (W.alloc (.cells ys.toArray e)).cell? ((⟨W.heap.size, 0, none⟩ : Addr).add j) = some u := by simpa using World.news_of_block (cs := ys.toArray) (t := e) (fr := (0, 0)) (heap_alloc_new W (.cells ys.toArray e))
  have HO' : (W.alloc (.cells ys.toArray e)).ownsRow 0 e size v n xs := HO.alloc _
  have hal : W.grownBy (W.alloc (.cells ys.toArray e)) none := World.grownBy_alloc W _ _
  rcases HO.2 with ⟨rfl, rfl⟩ | ⟨g, cap, cur, rfl, hbg, hg, hnc, hcm, hcs, htake⟩
  · refine wpList_append_own_at (W.alloc (.cells ys.toArray e)) hgd s x t ho 0 e i0 z size bytes ht hi hz0 hz1 hz2 hz hs0 (.slice none 0 0) 0 xs hs HO' ⟨W.heap.size, 0, none⟩ 1 1 ys hx (by rw [hys]; simp) hnews h1 (by simp only [maxLen]; omega) hl (Nat.zero_le _) ?_
    intro v1 w1 hown hg1 _ hat
    refine h v1 w1 hown ?_
    rcases hat with hat | hat
    · exact .inl ⟨hat, World.grownBy.trans hal hg1⟩
    · exact .inr ⟨_, hat, by simp, World.grownBy.trans hal hg1⟩
  · by_cases hroom : n + 1 ≤ cap
    · refine wpList_append_fits (W.alloc (.cells ys.toArray e)) hgd s x t ho 0 e i0 size ht hi hz1 g n cap xs hs HO' ⟨W.heap.size, 0, none⟩ 1 1 ys hx (by rw [hys]; simp) hnews h1 hroom ?_
      intro w1 hown hg1
      exact h _ w1 hown (.inl ⟨rfl, World.grownBy.trans (World.grownBy_alloc W _ _) hg1⟩)
    · refine wpList_append_grows (W.alloc (.cells ys.toArray e)) hgd s x t ho e i0 z size bytes ht hi hz0 hz1 hz2 hz hs0 (some ⟨g, 0, none⟩) n cap xs hs (fun h => by cases h) HO.1 (fun b hb j u hj => ?_) ⟨W.heap.size, 0, none⟩ 1 1 ys hx (by rw [hys]; simp) hnews h1 (by omega) (by simp only [maxLen]; omega) hl ?_
      · injection hb with hb
        subst hb
        exact HO'.cells (g := g) rfl j u hj
      · intro v1 w1 hown hg1
        have hlow : w1.ownsRow 0 e size v1 (n + 1) (xs ++ ys) := own_lower hown (Nat.zero_le _)
        refine h v1 w1 hlow (.inr ?_)
        rcases hown.2 with ⟨_, h0⟩ | ⟨g', c', cur', rfl, hb', _⟩
        · omega
        · exact ⟨g', rfl, by have : W.heap.size + 1 ≤ g' := by simpa using hb'
                             omega, World.grownBy.trans hal hg1⟩
end
end Go.Proofs.YtkdeleafgailhaaGreatDoor
end
section
set_option linter.unusedVariables false
set_option linter.unusedSimpArgs false
namespace Go.Proofs.YtkdeleafgailhaaGreatDoor
open Go Go.RowKit Go.Proofs.YtkdeleafgailhaaGreatDoorW.PrintWords

def LikeOK (x : JV) : Prop := ∀ (y : JV) (w : World) (cs cs' : List Value), kV.K w x cs → kV.K w y cs' →
  Calls Tryz.prog 17 #[.agg cs.toArray, .agg cs'.toArray] w fun e w' => ∃ b : Bool, e = .returned (.bool b) ∧ (b = true ↔ x = y) ∧ Below w.heap.size w w'

theorem bytes_beq_no {a b : ByteArray} (h : a ≠ b) : (a.toList == b.toList) = false := by rw [bytes_beq, decide_eq_false h]
theorem bytes_bne {a b : ByteArray} (h : a ≠ b) : (a.toList != b.toList) = true := by
  show (!(a.toList == b.toList)) = true
  rw [bytes_beq_no h]; rfl

theorem bytes_tne {a b : ByteArray} (h : a ≠ b) : ¬ (a.toList = b.toList) := by
  intro e
  have := bytes_beq_no h
  rw [e] at this
  simp at this
set_option maxRecDepth 100000 in
set_option maxHeartbeats 8000000 in
/-- Values whose heads differ. -/
theorem like_no (w : World) (k k' : Int) (t ng t' ng' : Bool) (ds tx ds' tx' : ByteArray) (ex ex' : Int) (A B A' B' : Option Addr) (n c m d n' c' m' d' : Nat)
    (h : ¬ (k = k' ∧ t = t' ∧ ng = ng' ∧ ds = ds' ∧ ex = ex' ∧ tx = tx' ∧ n = n' ∧ m = m')) :
    Calls Tryz.prog 17 #[.agg #[.int .i64 k, .bool t, .bool ng, .string ds, .int .i64 ex, .string tx, .slice A n c, .slice B m d], .agg #[.int .i64 k', .bool t', .bool ng', .string ds', .int .i64 ex', .string tx', .slice A' n' c', .slice B' m' d']] w fun e w' => e = .returned (.bool false) ∧ Below w.heap.size w w' := by
  have hB0 := ((Below.refl _ w).alloc (Nat.le_refl _) (.cells #[.int .i64 k, .bool t, .bool ng, .string ds, .int .i64 ex, .string tx, .slice A n c, .slice B m d] 27)).alloc (by simp) (.cells #[.int .i64 k', .bool t', .bool ng', .string ds', .int .i64 ex', .string tx', .slice A' n' c', .slice B' m' d'] 27)
  by_cases hk : k = k'
  · subst hk
    by_cases ht : t = t'
    · subst ht
      by_cases hng : ng = ng'
      · subst hng
        by_cases hds : ds = ds'
        · subst hds
          by_cases hex : ex = ex'
          · subst hex
            by_cases htx : tx = tx'
            · subst htx
              by_cases hn : n = n'
              · subst hn
                have hm : m ≠ m' := fun e => h ⟨rfl, rfl, rfl, rfl, rfl, rfl, rfl, e⟩
                have b1 : ((m : Int) != (m' : Int)) = true := by simp; omega
                go_enter Tryz.func17, Tryz.ntmps17
                go_wp2_with fail
                all_goals go_ret
                all_goals exact ⟨rfl, ((Below.refl _ w).alloc (Nat.le_refl _) _).alloc (by simp) _⟩
              · have b1 : ((n : Int) != (n' : Int)) = true := by simp; omega
                go_enter Tryz.func17, Tryz.ntmps17
                go_wp2_with fail
                all_goals go_ret
                all_goals exact ⟨rfl, ((Below.refl _ w).alloc (Nat.le_refl _) _).alloc (by simp) _⟩
            · have b1 := bytes_bne htx
              have b2 := bytes_tne htx
              go_enter Tryz.func17, Tryz.ntmps17
              go_wp2_with fail
              all_goals go_ret
              all_goals exact ⟨rfl, ((Below.refl _ w).alloc (Nat.le_refl _) _).alloc (by simp) _⟩
          · have b1 : (ex == ex') = false := by simpa using hex
            go_enter Tryz.func17, Tryz.ntmps17
            go_wp2_with fail
            all_goals go_ret
            all_goals exact ⟨rfl, ((Below.refl _ w).alloc (Nat.le_refl _) _).alloc (by simp) _⟩
        · have b1 := bytes_beq_no hds
          go_enter Tryz.func17, Tryz.ntmps17
          go_wp2_with fail
          all_goals go_ret
          all_goals exact ⟨rfl, ((Below.refl _ w).alloc (Nat.le_refl _) _).alloc (by simp) _⟩
      · have b1 : (ng == ng') = false := by simpa using hng
        go_enter Tryz.func17, Tryz.ntmps17
        go_wp2_with fail
        all_goals go_ret
        all_goals exact ⟨rfl, ((Below.refl _ w).alloc (Nat.le_refl _) _).alloc (by simp) _⟩
    · have b1 : (t != t') = true := by simpa using ht
      go_enter Tryz.func17, Tryz.ntmps17
      go_wp2_with fail
      all_goals go_ret
      all_goals exact ⟨rfl, ((Below.refl _ w).alloc (Nat.le_refl _) _).alloc (by simp) _⟩
  · have b1 : (k != k') = true := by simpa using hk
    go_enter Tryz.func17, Tryz.ntmps17
    go_wp2_with fail
    all_goals go_ret
    all_goals exact ⟨rfl, ((Below.refl _ w).alloc (Nat.le_refl _) _).alloc (by simp) _⟩

end Go.Proofs.YtkdeleafgailhaaGreatDoor
end
section
set_option linter.unusedVariables false
set_option linter.unusedSimpArgs false
namespace Go.Proofs.YtkdeleafgailhaaGreatDoor
open Go Go.RowKit Go.Proofs.YtkdeleafgailhaaGreatDoorW.PrintWords

set_option maxRecDepth 100000 in
set_option maxHeartbeats 8000000 in
/-- Values whose heads are one. -/
theorem like_go (w : World) (k : Int) (t ng : Bool) (ds tx : ByteArray) (ex : Int) (A B A' B' : Option Addr) (n m c d c' d' : Nat) (l l' : List JV) (f f' : List JF)
    (hcl : n ≤ c) (hcl' : n ≤ c') (hcf : m ≤ d) (hcf' : m ≤ d')
    (hCl : kV.C w A n l) (hCl' : kV.C w A' n l') (hCf : kF.C w B m f) (hCf' : kF.C w B' m f') (hl : ∀ y ∈ l, LikeOK y) (hf : ∀ g ∈ f, LikeOK g.value) :
    Calls Tryz.prog 17 #[.agg #[.int .i64 k, .bool t, .bool ng, .string ds, .int .i64 ex, .string tx, .slice A n c, .slice B m d], .agg #[.int .i64 k, .bool t, .bool ng, .string ds, .int .i64 ex, .string tx, .slice A' n c', .slice B' m d']] w fun e w' => ∃ b : Bool, e = .returned (.bool b) ∧ (b = true ↔ l = l' ∧ f = f') ∧ Below w.heap.size w w' := by
  have hmxl := hCl.2.1
  have hmxf := hCf.2.1
  have hnl := Aside0.mk hCl.1
  have hnl' := Aside0.mk hCl'.1
  have hnf := Aside0.mk hCf.1
  have hnf' := Aside0.mk hCf'.1
  obtain ⟨W0, hW0⟩ : ∃ W0, (w.alloc (.cells #[.int .i64 k, .bool t, .bool ng, .string ds, .int .i64 ex, .string tx, .slice A n c, .slice B m d] 27)).alloc (.cells #[.int .i64 k, .bool t, .bool ng, .string ds, .int .i64 ex, .string tx, .slice A' n c', .slice B' m d'] 27) = W0 := ⟨_, rfl⟩
  have hB0 : Below w.heap.size w W0 := by rw [← hW0]; exact ((Below.refl _ w).alloc (Nat.le_refl _) _).alloc (by simp) _
  have hk : W0.heap[w.heap.size]? = some (.cells #[.int .i64 k, .bool t, .bool ng, .string ds, .int .i64 ex, .string tx, .slice A n c, .slice B m d] 27 (0, 0)) := by
    rw [← hW0]; exact (heap_alloc_old _ _ (by simp)).trans (heap_alloc_new w _)
  have hj : W0.heap[w.heap.size + 1]? = some (.cells #[.int .i64 k, .bool t, .bool ng, .string ds, .int .i64 ex, .string tx, .slice A' n c', .slice B' m d'] 27 (0, 0)) := by
    rw [← hW0]
    have := heap_alloc_new (w.alloc (.cells #[.int .i64 k, .bool t, .bool ng, .string ds, .int .i64 ex, .string tx, .slice A n c, .slice B m d] 27)) (.cells #[.int .i64 k, .bool t, .bool ng, .string ds, .int .i64 ex, .string tx, .slice A' n c', .slice B' m d'] 27)
    simpa using this
  have hc0 := cellAll hk
  have hd0 := cellAll hj
  have hCl0 := Kd.C_below hCl hB0
  have hCl0' := Kd.C_below hCl' hB0
  have hCf0 := Kd.C_below hCf hB0
  have hCf0' := Kd.C_below hCf' hB0
  clear hCl hCl' hCf hCf'
  replace hk := Aside0.mk hk
  replace hj := Aside0.mk hj
  replace hB0 := Aside0.mk hB0
  go_enter Tryz.func17, Tryz.ntmps17
  go_wp2_with fail
  go_loopw [6] (fun i wr => ∃ j : Nat, i = .int .i64 j ∧ j ≤ n ∧ Aside0 (l.take j = l'.take j) ∧ Below W0.heap.size W0 wr) (fun i _ => n - (intOf i).toNat)
  case atStart => exact ⟨0, rfl, Nat.zero_le _, ⟨rfl⟩, Below.refl _ _⟩
  case round =>
    obtain ⟨j, rfl, hjl, hT, hB⟩ := hrel
    have hbr := (hB.block w.heap.size (blk_lt hk.out)).trans hk.out
    have hcr := cellAll hbr
    have hbr2 := (hB.block (w.heap.size + 1) (blk_lt hj.out)).trans hj.out
    have hdr := cellAll hbr2
    replace hbr := Aside0.mk hbr
    replace hbr2 := Aside0.mk hbr2
    clear hc0 hd0
    by_cases hlt : j < n
    · obtain ⟨ad, x, A6, c6, A7, c7, rfl, hx, hcs, l6, g6, l7, g7⟩ := at_V (Kd.C_below hCl0 hB) j hlt
      obtain ⟨ad', x', A6', c6', A7', c7', rfl, hx', hcs', l6', g6', l7', g7'⟩ := at_V (Kd.C_below hCl0' hB) j hlt
      have hK := kV_mkK l6 g6 l7 g7
      have hK' := kV_mkK l6' g6' l7' g7'
      unfold JV.cells at hcs hK hcs' hK'
      obtain ⟨q0, q1, q2, q3, q4, q5, q6, q7, _⟩ := hcs
      obtain ⟨p0, p1, p2, p3, p4, p5, p6, p7, _⟩ := hcs'
      have cL := hl x (List.mem_of_getElem? hx) x' wr.drew _ _ (kV.K_below (Below.refl _ wr).drew hK) (kV.K_below (Below.refl _ wr).drew hK')
      have hsn : Aside0 (x = x' → l.take (j + 1) = l'.take (j + 1)) := ⟨fun e => by rw [List.take_add_one, List.take_add_one, hx, hx', hT.out, e]⟩
      have hsx : Aside0 (l = l' → x = x') := ⟨fun e => by rw [e, hx'] at hx; injection hx with hx; exact hx.symm⟩
      replace hx := Aside0.mk hx
      replace hx' := Aside0.mk hx'
      clear hK hK'
      go_wp2_with fail
      go_still_tail 10, (by kernel_rfl)
      change wpList _ _ _ _ _ wr.drew
      go_wp2_with (go_at_call 17; refine cL.mono ?_; rintro e w1 ⟨b, rfl, hbx, hb4⟩)
      all_goals (have hb5 := (Below.refl wr.heap.size wr).drew.trans hb4)
      all_goals (have hB6 := hB.trans (hb5.mono hB.size))
      all_goals (first
        | (have hbf : b = false := (by have hh : (!b) = true := (by assumption); simpa using hh)
           go_ret
           exact ⟨false, rfl, ⟨fun h => (by cases h), fun h => absurd (hbx.2 (hsx.out h.1)) (by rw [hbf]; simp)⟩, hB0.out.trans (hB6.mono hB0.out.size)⟩)
        | (have hbt : b = true := (by have hh : (!b) = false := (by assumption); simpa using hh)
           refine ⟨⟨j + 1, by go_num, by omega, ⟨hsn.out (hbx.1 hbt)⟩, hB6⟩, ?_⟩
           simp [intOf]; omega))
    · obtain rfl : j = n := by omega
      have hlt2 : decide ((j : Int) < (j : Int)) = false := by simp
      have hTl : Aside0 (l = l') := ⟨by have := hT.out; rw [List.take_of_length_le (by rw [hnl.out]; exact Nat.le_refl _), List.take_of_length_le (by rw [hnl'.out]; exact Nat.le_refl _)] at this; exact this⟩
      go_wp2_with fail
      clear hT
      go_loopw [8] (fun i wr2 => ∃ q : Nat, i = .int .i64 q ∧ q ≤ m ∧ Aside0 (f.take q = f'.take q) ∧ Below W0.heap.size W0 wr2) (fun i _ => m - (intOf i).toNat)
      case atStart => exact ⟨0, rfl, Nat.zero_le _, ⟨rfl⟩, hB⟩
      case round =>
        obtain ⟨q, rfl, hqm, hT, hB2⟩ := hrel
        have hbr3 := (hB2.block w.heap.size (blk_lt hk.out)).trans hk.out
        have hcr3 := cellAll hbr3
        have hbr4 := (hB2.block (w.heap.size + 1) (blk_lt hj.out)).trans hj.out
        have hdr4 := cellAll hbr4
        replace hbr3 := Aside0.mk hbr3
        replace hbr4 := Aside0.mk hbr4
        clear hcr hdr
        by_cases hlt3 : q < m
        · obtain ⟨ad, x, A6, c6, A7, c7, rfl, hx, hcs, l6, g6, l7, g7⟩ := at_F (Kd.C_below hCf0 hB2) q hlt3
          obtain ⟨ad', x', A6', c6', A7', c7', rfl, hx', hcs', l6', g6', l7', g7'⟩ := at_F (Kd.C_below hCf0' hB2) q hlt3
          have hK := kV_mkK l6 g6 l7 g7
          have hK' := kV_mkK l6' g6' l7' g7'
          unfold JV.cells at hcs hK hcs' hK'
          have cL := hf x (List.mem_of_getElem? hx) x'.value wr.drew _ _ (kV.K_below (Below.refl _ wr).drew hK) (kV.K_below (Below.refl _ wr).drew hK')
          have hfe : Aside0 (x.name = x'.name → x.value = x'.value → x = x') := ⟨fun e1 e2 => by
            obtain ⟨xn, xv⟩ := x
            obtain ⟨xn', xv'⟩ := x'
            simp only [JF.name, JF.value] at e1 e2
            rw [e1, e2]⟩
          have hsn : Aside0 (x = x' → f.take (q + 1) = f'.take (q + 1)) := ⟨fun e => by rw [List.take_add_one, List.take_add_one, hx, hx', hT.out, e]⟩
          have hsx : Aside0 (f = f' → x = x') := ⟨fun e => by rw [e, hx'] at hx; injection hx with hx; exact hx.symm⟩
          have hel := Aside0.mk hcs
          have hel' := Aside0.mk hcs'
          obtain ⟨q0, q1, q2, q3, q4, q5, q6, q7, q8, _⟩ := hcs
          obtain ⟨p0, p1, p2, p3, p4, p5, p6, p7, p8, _⟩ := hcs'
          replace hx := Aside0.mk hx
          replace hx' := Aside0.mk hx'
          clear hK hK'
          go_wp2_with fail
          go_still_tail 12, (by kernel_rfl)
          change wpList _ _ _ _ _ wr.drew
          go_wp2_with (go_at_call 17; refine cL.mono ?_; rintro e w1 ⟨b, rfl, hbx, hb4⟩; have hb5 := (Below.refl wr.heap.size wr).drew.trans hb4; have hB6 := hB2.trans (hb5.mono hB2.size); have hcr5 := cellAll ((hB6.block w.heap.size (blk_lt hk.out)).trans hk.out); have hdr5 := cellAll ((hB6.block (w.heap.size + 1) (blk_lt hj.out)).trans hj.out); have hn5 := pw_cell_below hb5 q0; have hn5' := pw_cell_below hb5 p0; clear hcr3 hdr4 q0 p0)
          cases b with
          | false =>
            go_quiet (fail)
            go_wp2_with fail
            go_ret
            exact ⟨false, rfl, ⟨fun h => (by cases h), fun h => absurd (hbx.2 (by rw [hsx.out h.2])) (by simp)⟩, pw_below_drewN (hB0.out.trans (hB6.mono hB0.out.size)) _⟩
          | true =>
            by_cases hnm : x.name = x'.name
            · rw [hnm] at hn5
              go_quiet (fail)
              go_wp2_with fail
              refine ⟨⟨q + 1, by go_num, by omega, ⟨hsn.out (hfe.out hnm (hbx.1 rfl))⟩, pw_below_drewN hB6 _⟩, ?_⟩
              simp [intOf]; omega
            · have b1 := bytes_bne hnm
              have b2 := bytes_tne hnm
              have b3 := bytes_beq_no hnm
              go_quiet (fail)
              go_wp2_with fail
              go_ret
              have hno : ¬ (f = f') := fun h => hnm (by rw [hsx.out h])
              exact .inl ⟨rfl, fun _ => hno, pw_below_drewN (hB0.out.trans (hB6.mono hB0.out.size)) _⟩
        · obtain rfl : q = m := by omega
          have hlt5 : decide ((q : Int) < (q : Int)) = false := by simp
          have hTf : Aside0 (f = f') := ⟨by have := hT.out; rw [List.take_of_length_le (by rw [hnf.out]; exact Nat.le_refl _), List.take_of_length_le (by rw [hnf'.out]; exact Nat.le_refl _)] at this; exact this⟩
          go_wp2_with fail
          go_ret
          exact ⟨true, rfl, ⟨fun _ => ⟨hTl.out, hTf.out⟩, fun _ => rfl⟩, hB0.out.trans (hB2.mono hB0.out.size)⟩

theorem like_step (x : JV) (hl : ∀ y ∈ x.list, LikeOK y) (hf : ∀ g ∈ x.fields, LikeOK g.value) : LikeOK x := by
  intro y w cs cs' hK hK'
  obtain ⟨A, c, B, d, rfl, hV⟩ := VC.of hK
  obtain ⟨A', c', B', d', rfl, hV'⟩ := VC.of hK'
  obtain ⟨k, t, ng, ds, ex, tx, l, f⟩ := x
  obtain ⟨k', t', ng', ds', ex', tx', l', f'⟩ := y
  obtain ⟨_, hlc, hCl, hfc, hCf⟩ := hV
  obtain ⟨_, hlc', hCl', hfc', hCf'⟩ := hV'
  unfold JV.cells
  simp only [JV.kind, JV.truth, JV.neg, JV.digits, JV.exp, JV.text, JV.list, JV.fields] at *
  by_cases h : k = k' ∧ t = t' ∧ ng = ng' ∧ ds = ds' ∧ ex = ex' ∧ tx = tx' ∧ l.length = l'.length ∧ f.length = f'.length
  · obtain ⟨rfl, rfl, rfl, rfl, rfl, rfl, h1, h2⟩ := h
    rw [← h1] at hlc' hCl' ⊢
    rw [← h2] at hfc' hCf' ⊢
    refine (like_go w k t ng ds tx ex A B A' B' l.length f.length c d c' d' l l' f f' hlc hlc' hfc hfc' hCl hCl' hCf hCf' hl hf).mono ?_
    rintro e w' ⟨b, rfl, hb, hB⟩
    refine ⟨b, rfl, hb.trans ⟨fun h => by rw [h.1, h.2], fun h => ?_⟩, hB⟩
    injection h with _ _ _ _ _ _ h3 h4
    exact ⟨h3, h4⟩
  · refine (like_no w k k' t ng t' ng' ds tx ds' tx' ex ex' A B A' B' l.length c f.length d l'.length c' f'.length d' h).mono ?_
    rintro e w' ⟨rfl, hB⟩
    refine ⟨false, rfl, ⟨fun h => (by cases h), fun e => absurd ?_ h⟩, hB⟩
    injection e with e1 e2 e3 e4 e5 e6 e7 e8
    exact ⟨e1, e2, e3, e4, e5, e6, by rw [e7], by rw [e8]⟩
theorem like_all : ∀ (n : Nat) (x : JV), x.wt ≤ n → LikeOK x
  | 0, .mk k t ng ds ex tx l f, h => by rw [JV.wt] at h; omega
  | n + 1, .mk k t ng ds ex tx l f, h => by
    rw [JV.wt] at h
    exact like_step _ (fun y hy => like_all n y (by have := wt_memL hy; simp only [JV.list] at this; omega)) (fun g hg => like_all n _ (by have := wt_memF hg; simp only [JV.fields] at this; omega))
/-- **voyageref02.Like**: are they one? -/
theorem like_any (x : JV) : LikeOK x := like_all _ x (Nat.le_refl _)
end Go.Proofs.YtkdeleafgailhaaGreatDoor
end
section
set_option linter.unusedVariables false
set_option linter.unusedSimpArgs false
namespace Go.Proofs.YtkdeleafgailhaaGreatDoor
open Go Go.RowKit

/-! ### bytes at a place -/
/-- The text s has the bytes q from j on. -/
def Has (s : ByteArray) (j : Nat) (q : List UInt8) : Prop := j + q.length ≤ s.size ∧ ∀ k c, q[k]? = some c → byteAt s (j + k) = c.toNat
theorem Has.left {s : ByteArray} {j : Nat} {a b : List UInt8} (h : Has s j (a ++ b)) : Has s j a := by
  obtain ⟨h1, h2⟩ := h
  rw [List.length_append] at h1
  refine ⟨by omega, fun k c hk => h2 k c ?_⟩
  rw [List.getElem?_append_left (List.getElem?_eq_some_iff.1 hk).1]
  exact hk
theorem Has.right {s : ByteArray} {j : Nat} {a b : List UInt8} (h : Has s j (a ++ b)) : Has s (j + a.length) b := by
  obtain ⟨h1, h2⟩ := h
  rw [List.length_append] at h1
  refine ⟨by omega, fun k c hk => ?_⟩
  have := h2 (a.length + k) c (by rw [List.getElem?_append_right (by omega), Nat.add_sub_cancel_left]; exact hk)
  rw [← Nat.add_assoc] at this
  exact this
theorem byteAt_get {s : ByteArray} {j : Nat} (h : j < s.size) : byteAt s j = (s.get! j).toNat := by
  unfold byteAt
  rw [dif_pos h]
  congr 1
  show s.data[j] = s.data[j]!
  rw [getElem!_pos s.data j h]
/-- A whole text has its bytes. -/
theorem Has.all (s : ByteArray) : Has s 0 s.data.toList := by
  refine ⟨by rw [Array.length_toList, Nat.zero_add]; exact Nat.le_refl _, fun k c hk => ?_⟩
  rw [Nat.zero_add]
  rw [Array.getElem?_toList] at hk
  obtain ⟨hl, hc⟩ := Array.getElem?_eq_some_iff.1 hk
  unfold byteAt
  rw [dif_pos (show k < s.size from hl)]
  show (s.data[k]).toNat = _
  rw [hc]
theorem Has.part (s : ByteArray) (j n : Nat) (h : j + n ≤ s.size) : Has s j ((s.data.toList.drop j).take n) := by
  have h0 := Has.all s
  have e : s.data.toList = s.data.toList.take j ++ ((s.data.toList.drop j).take n ++ (s.data.toList.drop j).drop n) := by rw [List.take_append_drop, List.take_append_drop]
  have hj : (s.data.toList.take j).length = j := by rw [List.length_take, Array.length_toList]; have : s.data.size = s.size := rfl; omega
  rw [e] at h0
  have h1 := h0.right.left
  rw [hj, Nat.zero_add] at h1
  exact h1
theorem Has.extract {s : ByteArray} {j : Nat} {q : List UInt8} (h : Has s j q) : s.extract j (j + q.length) = ⟨q.toArray⟩ := by
  have h2 := Has.part s j q.length h.1
  have e : (s.data.toList.drop j).take q.length = q := by
    apply List.ext_getElem?
    intro k
    by_cases hk : k < q.length
    · have hl : k < ((s.data.toList.drop j).take q.length).length := by have h3 := h.1; have h5 : s.data.toList.length = s.size := Array.length_toList; rw [List.length_take, List.length_drop, h5]; omega
      have a := h2.2 k _ (List.getElem?_eq_getElem hl)
      have b := h.2 k _ (List.getElem?_eq_getElem hk)
      rw [List.getElem?_eq_getElem hl, List.getElem?_eq_getElem hk]
      congr 1
      exact UInt8.toNat_inj.1 (a.symm.trans b)
    · rw [List.getElem?_eq_none (by rw [List.length_take]; omega), List.getElem?_eq_none (by omega)]
  apply ByteArray.ext
  apply Array.ext'
  show (s.extract j (j + q.length)).data.toList = q
  rw [← e]
  simp [ByteArray.data_extract, List.extract_eq_take_drop, Nat.add_sub_cancel_left]

/-! ### letters -/
theorem decodeN_pos (n b0 b1 b2 b3 : Nat) : 1 ≤ (Lib.decodeN n b0 b1 b2 b3).2 := by
  rcases Lib.decodeN_shape n b0 b1 b2 b3 with ⟨c, e⟩ | ⟨a1, a2, a3, av, e⟩ | ⟨a1, a2, a3, a4, av, ax, e⟩ | ⟨a1, a2, a3, a4, a5, av, aw, e⟩ | e
  all_goals (rw [e]; simp)
theorem get_drop (l : List UInt8) (p k : Nat) : (l.drop p).getD k 0 = l.getD (p + k) 0 := by
  simp [List.getD, List.getElem?_drop]
/-! ### a text in quotes -/
end Go.Proofs.YtkdeleafgailhaaGreatDoor
end
section
set_option linter.unusedVariables false
set_option linter.unusedSimpArgs false
namespace Go.Proofs.YtkdeleafgailhaaGreatDoor
open Go Go.RowKit

theorem get_bang (t : ByteArray) (p : Nat) : t.get! p = t.data.toList.getD p 0 := by
  show t.data[p]! = _
  by_cases h : p < t.data.size
  · rw [getElem!_pos t.data p h, List.getD, List.getElem?_eq_getElem (by rw [Array.length_toList]; exact h)]
    simp
  · rw [getElem!_neg t.data p h, List.getD, List.getElem?_eq_none (by rw [Array.length_toList]; omega)]
    rfl
theorem decode_drop (t : ByteArray) (p : Nat) : Utf8.decode t p = Lib.decodeL (t.data.toList.drop p) := by
  rw [Lib.decode_at, Lib.decodeL_N, List.length_drop, Array.length_toList, get_drop, get_drop, get_drop, get_drop, get_bang, get_bang, get_bang, get_bang]
  rfl
theorem encodeRune_len (r : Int) : 1 ≤ (Lib.encodeRune r).length := by
  unfold Lib.encodeRune
  rw [List.length_map]
  exact (Lib.encodeRuneZ_length r).1
/-! ### clean gives what is valid -/
theorem bytes_nat (z : Int) (h : 0 ≤ z ∧ z < 256) : (z.toNat.toUInt8).toNat = z.toNat := by
  have : z.toNat < 256 := by omega
  simp [Nat.toUInt8, UInt8.toNat_ofNat', Nat.mod_eq_of_lt this]
theorem validD_enc (r : Nat) (h : r < 55296 ∨ (57343 < r ∧ r ≤ 1114111)) (l : List UInt8) : Lib.validD (Lib.encodeRune (r : Int) ++ l) = Lib.validD l := by
  have hne : Lib.encodeRune (r : Int) ++ l ≠ [] := by
    have := encodeRune_len (r : Int)
    intro e
    rw [List.append_eq_nil_iff] at e
    rw [e.1] at this
    simp at this
  have key : Lib.decodeL (Lib.encodeRune (r : Int) ++ l) = (r, (Lib.encodeRune (r : Int)).length) ∧ ¬ (r = 65533 ∧ (Lib.encodeRune (r : Int)).length = 1) := by
    unfold Lib.encodeRune
    by_cases h1 : r ≤ 127
    · rw [Lib.encodeRuneZ_one (by omega) (by omega)]
      refine ⟨?_, by omega⟩
      rw [Lib.decodeL_N]
      simp only [List.map_cons, List.map_nil, List.cons_append, List.nil_append, List.getD_cons_zero]
      rw [bytes_nat _ (by omega)]
      unfold Lib.decodeN
      rw [if_pos (by omega)]
      simp
    by_cases h2 : r ≤ 2047
    · rw [Lib.encodeRuneZ_two (by omega) (by omega)]
      refine ⟨?_, by simp⟩
      rw [Lib.decodeL_N]
      simp only [List.map_cons, List.map_nil, List.cons_append, List.nil_append, List.getD_cons_zero, List.getD_cons_succ, List.length_cons, List.length_append, List.length_nil]
      rw [bytes_nat _ (by omega), bytes_nat _ (by omega)]
      unfold Lib.decodeN
      rw [if_neg (by omega), if_pos (by omega), if_pos (by omega)]
      apply Prod.ext <;> simp only <;> omega
    by_cases h3 : r ≤ 65535
    · rw [Lib.encodeRuneZ_three (by omega)]
      refine ⟨?_, by simp⟩
      rw [Lib.decodeL_N]
      simp only [List.map_cons, List.map_nil, List.cons_append, List.nil_append, List.getD_cons_zero, List.getD_cons_succ, List.length_cons, List.length_append, List.length_nil]
      rw [bytes_nat _ (by omega), bytes_nat _ (by omega), bytes_nat _ (by omega)]
      unfold Lib.decodeN
      rw [if_neg (by omega), if_neg (by omega), if_pos (by omega), if_pos (by omega)]
      apply Prod.ext <;> simp only <;> omega
    · rw [Lib.encodeRuneZ_four (by omega) (by omega)]
      refine ⟨?_, by simp⟩
      rw [Lib.decodeL_N]
      simp only [List.map_cons, List.map_nil, List.cons_append, List.nil_append, List.getD_cons_zero, List.getD_cons_succ, List.length_cons, List.length_append, List.length_nil]
      rw [bytes_nat _ (by omega), bytes_nat _ (by omega), bytes_nat _ (by omega), bytes_nat _ (by omega)]
      unfold Lib.decodeN
      rw [if_neg (by omega), if_neg (by omega), if_neg (by omega), if_pos (by omega), if_pos (by omega)]
      apply Prod.ext <;> simp only <;> omega
  rw [Lib.validD_step _ hne, key.1, if_neg key.2, List.drop_left]
theorem cleanFrom_valid (s : ByteArray) : ∀ (fuel pos : Nat), Lib.validD (cleanFrom s fuel pos) = true
  | 0, pos => rfl
  | fuel + 1, pos => by
    rw [cleanFrom]
    split
    · rw [decode_drop, Lib.decodeL_N]
      rw [validD_enc]
      · exact cleanFrom_valid s fuel _
      · rcases Lib.decodeN_shape (s.data.toList.drop pos).length ((s.data.toList.drop pos).getD 0 0).toNat ((s.data.toList.drop pos).getD 1 0).toNat ((s.data.toList.drop pos).getD 2 0).toNat ((s.data.toList.drop pos).getD 3 0).toNat with ⟨c, e⟩ | ⟨a1, a2, a3, av, e⟩ | ⟨a1, a2, a3, a4, av, ax, e⟩ | ⟨a1, a2, a3, a4, a5, av, aw, e⟩ | e
        all_goals (rw [e]; simp only; omega)
    · rfl
theorem clean_valid (s : ByteArray) : Lib.validD (clean s).data.toList = true := by
  unfold clean
  split
  · assumption
  · exact cleanFrom_valid s _ _
theorem clean_of_valid {s : ByteArray} (h : Lib.validD s.data.toList = true) : clean s = s := by
  unfold clean
  rw [if_pos h]
end Go.Proofs.YtkdeleafgailhaaGreatDoor
end
