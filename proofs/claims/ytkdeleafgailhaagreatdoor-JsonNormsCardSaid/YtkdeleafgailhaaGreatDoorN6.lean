/- slices.Insert of one field into a row of fields of the call's own: the row with the field at its place. strings.Builder's writing methods at this program: the shelf's contracts, laid by way of strings.Map's closure. -/
import Derived.Test.YtkdeleafgailhaaGreatDoorN2
import Derived.Test.YtkdeleafgailhaaGreatDoorN5
import Derived.Laws.CopyOwn
import Derived.Deep.AppendSrc
import Derived.Lib.AppendZeros
import Derived.Lib.Overlaps
import Derived.Maps.AppendAt
import Derived.WalkKit
import Derived.BigCall
import Derived.Outline
import Derived.Test.YtkdeleafgailhaaGreatDoorN3
import Derived.Shelf.Strings.BuilderRune
import Derived.Shelf.Strings.BuilderK
import Derived.Shelf.Strings.MapGrows
section
set_option linter.unusedVariables false
set_option linter.unusedSimpArgs false
namespace Go.Proofs.YtkdeleafgailhaaGreatDoor
open Go Go.RowKit Go.Proofs.YtkdeleafgailhaaGreatDoorW.PrintWords Go.Proofs.YtkdeleafgailhaaGreatDoorW.PrintLast

section
variable {P : Program}
/-- 'copy' of elements of several cells onto a row that is known whole. -/
theorem run_copy_wide (w : World) (dT sT ty elem : TypeId) (g o dLen dCap : Nat) (a : Addr) (sLen sCap size : Nat) (cur : Array Value) (t : TypeId) (cs : List Value)
    (hu : P.underlying dT = some (.slice elem)) (hs : (P.info? elem).map (·.size) = some size)
    (hg : w.heap[g]? = some (.cells cur t (0, 0))) (hn : cs.length = Nat.min sLen dLen * size)
    (hsrc : ∀ j v, cs[j]? = some v → w.cell? (a.add j) = some v) (hfit : o + cs.length ≤ cur.size) (h1 : ∀ v ∈ cs, v.oneCell' = true) :
    (Builtin.copy_ #[dT, sT] ty #[.slice (some ⟨g, o, none⟩) dLen dCap, .slice (some a) sLen sCap]).run P w =
      .ok (goInt (Nat.min sLen dLen)) (w.setRow g (cur.toList.take o ++ cs ++ cur.toList.drop (o + cs.length)).toArray) := by
  have hl := run_loadCells_list (P := P) w a cs hsrc
  have hst := run_storeCells_at P g o t cs 0 cur w hg (by simpa using hfit) h1
  cases hq : P.info? elem with
  | none => simp [hq] at hs
  | some i =>
    have hi : i.size = size := by simpa [hq] using hs
    simp [Builtin.copy_, run_underlying hu, Builtin.lenOf, Builtin.firstCells, sizeOf, typeInfo, hq, hi, ← hn, hl, hst]
theorem wpList_copy_wide {w : World} {ops : Array Oper} {rest : List Oper} {o : Oper} {a : Act} {Q : Exit → Act → World → Prop} (hgd : o.guard = none) (d s : Operand) (dT sT : TypeId)
    (ho : o.op = .call { callee := .builtin .copy, args := #[d, s], argTypes := #[dT, sT] }) (elem : TypeId) (size : Nat) (hu : P.underlying dT = some (.slice elem)) (hsz : (P.info? elem).map (·.size) = some size)
    (g off dLen dCap : Nat) (ad : Addr) (sLen sCap : Nat) (hd : a.eval d = .slice (some ⟨g, off, none⟩) dLen dCap) (hs : a.eval s = .slice (some ad) sLen sCap)
    (cur : List Value) (t : TypeId) (hg : w.heap[g]? = some (.cells cur.toArray t (0, 0))) (cs : List Value) (hn : cs.length = Nat.min sLen dLen * size)
    (hsrc : ∀ j v, cs[j]? = some v → w.cell? (ad.add j) = some v) (hfit : off + cs.length ≤ cur.length) (h1 : ∀ v ∈ cs, v.oneCell' = true)
    (h : ∀ w', Hid (w'.heap[g]? = some (.cells (splice cur off cs).toArray t (0, 0))) → w.grownBy w' (some g) → wpList P ops Q rest (a.put o.dst (goInt (Nat.min sLen dLen))) w') : wpList P ops Q (o :: rest) a w := by
  refine wpList_plain hgd fun K hK => ?_
  have hrun := run_copy_wide (P := P) w dT sT o.type elem g off dLen dCap ad sLen sCap size cur.toArray t cs hu hsz hg hn hsrc (by simpa using hfit) h1
  unfold Oper.wp
  simp [execOp, ho, resolve, invoke, builtin, hd, hs, hrun, Result.andThen]
  exact hK _ _ (h _ (show _ = _ by simpa [splice] using setRow_heap w g _ _ t _ hg) ⟨rfl, rfl, rfl, by simp [World.setRow], fun k hk hne => setRow_other w g k _ (fun e => hne (by rw [e]))⟩)
theorem step_copy_wide {ops : Array Oper} {o : Oper} {a : Act} {w : World} {K : Act → World → Prop} {Q : Exit → Act → World → Prop} {E : Prop} (hgd : o.guard = none) (d s : Operand) (dT sT : TypeId)
    (ho : o.op = .call { callee := .builtin .copy, args := #[d, s], argTypes := #[dT, sT] }) (elem : TypeId) (size : Nat) (hu : P.underlying dT = some (.slice elem)) (hsz : (P.info? elem).map (·.size) = some size)
    (g off dLen dCap : Nat) (ad : Addr) (sLen sCap : Nat) (hd : a.eval d = .slice (some ⟨g, off, none⟩) dLen dCap) (hs : a.eval s = .slice (some ad) sLen sCap)
    (cur : List Value) (t : TypeId) (hg : w.heap[g]? = some (.cells cur.toArray t (0, 0))) (cs : List Value) (hn : cs.length = Nat.min sLen dLen * size)
    (hsrc : ∀ j v, cs[j]? = some v → w.cell? (ad.add j) = some v) (hfit : off + cs.length ≤ cur.length) (h1 : ∀ v ∈ cs, v.oneCell' = true)
    (h : ∀ w', Hid (w'.heap[g]? = some (.cells (splice cur off cs).toArray t (0, 0))) → w.grownBy w' (some g) → K (a.put o.dst (goInt (Nat.min sLen dLen))) w') :
    if Region.wanted o (yielded ops a.tmps) = true then Oper.wp P o a w K Q else E := by
  have hw : Region.wanted o (yielded ops a.tmps) = true := by simp [Region.wanted, hgd]
  rw [if_pos hw]
  have hrun := run_copy_wide (P := P) w dT sT o.type elem g off dLen dCap ad sLen sCap size cur.toArray t cs hu hsz hg hn hsrc (by simpa using hfit) h1
  unfold Oper.wp
  simp [execOp, ho, resolve, invoke, builtin, hd, hs, hrun, Result.andThen]
  exact h _ (show _ = _ by simpa [splice] using setRow_heap w g _ _ t _ hg) ⟨rfl, rfl, rfl, by simp [World.setRow], fun k hk hne => setRow_other w g k _ (fun e => hne (by rw [e]))⟩
/-- 'append(s[:n], make([]T, m)...)' beyond the capacity: a new row. -/
theorem run_append_zgrow (w : World) (t ti ty e : TypeId) (i : TypeInfo) (z : Value) (ht : P.underlying t = some (.slice e)) {k kx : IntKind} (hti : P.underlying ti = some (.int k)) (hi : P.info? e = some i) (hz : i.zero = some z)
    (hsz : 0 < i.size) (hb0 : 0 < i.bytes) (g n cap m : Nat) (xs : List Value) (hl : xs.length = n * i.size) (hsrc : ∀ j v, xs[j]? = some v → w.cell? ((⟨g, 0, none⟩ : Addr).add j) = some v) (hm : 0 < m) (hcap : cap < n + m) (hbytes : (n + m) * i.bytes ≤ 140737488355328) :
    (Builtin.append_ #[t, ti] ty #[.slice (some ⟨g, 0, none⟩) n cap, .int kx m]).run P w =
      .ok (.slice (some ⟨w.heap.size, 0, none⟩) (n + m) (grownCap w (n + m) cap e)) (w.drew.alloc (.cells (xs.toArray ++ Builtin.zeroCells z.cells m ++ Builtin.zeroCells z.cells (grownCap w (n + m) cap e - (n + m))) e)) := by
  have hle : n + m ≤ 140737488355328 := Nat.le_trans (Nat.le_mul_of_pos_right _ hb0) hbytes
  have hw : IntKind.i64.wrap (m : Int) = m := by rw [IntKind.wrap_i64]; omega
  have hneg : ¬ ((m : Int) < 0) := by omega
  have hmb : m * i.bytes ≤ 140737488355328 := Nat.le_trans (Nat.mul_le_mul_right _ (Nat.le_add_left m n)) hbytes
  have hbig : ¬ (281474976710656 < (m : Int) * (i.bytes : Int)) := by
    rw [← Int.natCast_mul]
    omega
  have hn : ¬ (n + m ≤ cap) := by omega
  have h63' : ¬ (9223372036854775807 < ((n : Int) + (m : Int))) := by omega
  have hfit := growslice_fits hcap hbytes
  have h48' : ¬ (281474976710656 < Builtin.nextslicecap (n + m) cap * i.bytes) := by omega
  have hmz : ¬ (m * i.size = 0) := Nat.mul_ne_zero (by omega) (by omega)
  have hfo := run_firstCells_some (P := P) w.drew i.size n ⟨g, 0, none⟩ n cap xs hl (by simpa using hsrc)
  simp [Builtin.append_, run_underlying ht, run_underlying hti, sizeOf, typeInfo, zeroValue, hi, hz, asInt, asIntOf, hw, hn, hneg, hmz, hbig, h63', h48', Question.forced, hfo, newRow, grownCap]
theorem wpList_append_zgrow {w : World} {ops : Array Oper} {rest : List Oper} {o : Oper} {a : Act} {Q : Exit → Act → World → Prop} (hgd : o.guard = none) (s x : Operand) (t ti : TypeId)
    (ho : o.op = .call { callee := .builtin .append, args := #[s, x], argTypes := #[t, ti] }) (e : TypeId) (i : TypeInfo) (z : Value) (size bytes : Nat) (ht : P.underlying t = some (.slice e)) {k : IntKind} (hti : P.underlying ti = some (.int k)) (hi : P.info? e = some i) (hz : i.zero = some z)
    (hsize : i.size = size) (hby : i.bytes = bytes) (hzs : z.cells.size = size) (hsz : 0 < size) (hb0 : 0 < bytes) (g n cap m : Nat) (kx : IntKind) (hs : a.eval s = .slice (some ⟨g, 0, none⟩) n cap) (hx : a.eval x = .int kx m)
    (xs : List Value) (hl : xs.length = n * size) (hsrc : ∀ j v, xs[j]? = some v → w.cell? ((⟨g, 0, none⟩ : Addr).add j) = some v) (hm : 0 < m) (hcap : cap < n + m) (hbytes : (n + m) * bytes ≤ 140737488355328)
    (h : ∀ w' cap' more, Hid (w'.heap[w.heap.size]? = some (.cells (xs ++ more).toArray e (0, 0))) → (xs ++ more).length = cap' * size → n + m ≤ cap' → cap' ≤ maxLen → w.grownBy w' none → wpList P ops Q rest (a.put o.dst (.slice (some ⟨w.heap.size, 0, none⟩) (n + m) cap')) w') :
    wpList P ops Q (o :: rest) a w := by
  subst hsize hby
  have hle : n + m ≤ 140737488355328 := Nat.le_trans (Nat.le_mul_of_pos_right _ hb0) hbytes
  refine Lib.wpList_append_run w hgd s x t ti ho _ _ hs hx _ _ (run_append_zgrow w t ti o.type e i z ht hti hi hz hsz hb0 g n cap m xs hl hsrc hm hcap hbytes) ?_
  have hge := grownCap_ge w (n + m) cap e
  refine h _ (grownCap w (n + m) cap e) ((Builtin.zeroCells z.cells m).toList ++ (Builtin.zeroCells z.cells (grownCap w (n + m) cap e - (n + m))).toList) ?_ ?_ hge (grownCap_le_maxLen w (n + m) cap e (by simp only [maxLen]; omega)) ⟨rfl, rfl, rfl, by simp, fun k hk _ => heap_alloc_old w.drew _ hk⟩
  · show _ = _
    refine (heap_alloc_new w.drew _).trans ?_
    congr 2
    apply Array.ext'
    simp
  · simp only [List.length_append, Array.length_toList, size_zeroCells, hzs, hl, ← Nat.add_mul]
    congr 1
    omega
end

def zF : Value := .agg #[.string ⟨#[]⟩, .int .i64 0, .bool false, .bool false, .string ⟨#[]⟩, .int .i64 0, .string ⟨#[]⟩, .slice none 0 0, .slice none 0 0]
def zV : Value := .agg #[.int .i64 0, .bool false, .bool false, .string ⟨#[]⟩, .int .i64 0, .string ⟨#[]⟩, .slice none 0 0, .slice none 0 0]
theorem infoF : (Tryz.prog.info? 69).map (fun i => (i.zero, i.size, i.bytes)) = some (some zF, 9, 128) := by kernel_rfl
theorem infoV : (Tryz.prog.info? 27).map (fun i => (i.zero, i.size, i.bytes)) = some (some zV, 8, 112) := by kernel_rfl
theorem sizeF : (Tryz.prog.info? 69).map (·.size) = some 9 := by kernel_rfl

set_option maxRecDepth 100000 in
set_option maxHeartbeats 4000000 in
/-- At the end. -/
theorem insert_end (base : Nat) (v : Value) (n : Nat) (inner cs : List Value) (vb : Nat) (w : World) (hown : w.ownsRow base 69 9 v n inner)
    (hvb : w.heap[vb]? = some (.cells cs.toArray 69 (0, 0))) (hcs : cs.length = 9) (h1 : ∀ u ∈ cs, u.oneCell' = true) (hbase : base ≤ w.heap.size) (hn : n ≤ 4294967296) :
    Calls Tryz.prog 72 #[v, .int .i64 n, .slice (some ⟨vb, 0, none⟩) 1 1] w fun e w' => ∃ v1, e = .returned v1 ∧ w'.ownsRow base 69 9 v1 (n + 1) (inner ++ cs) ∧
      w.grownBy w' v.ownBlock ∧ (v1.ownBlock = v.ownBlock ∨ ∃ b, v1.ownBlock = some b ∧ w.heap.size ≤ b) := by
  obtain ⟨i0, hi, hz0, hz1, hz2⟩ := info_parts infoF
  obtain ⟨A, c, rfl⟩ := own_slice hown
  go_enter Tryz.func72, Tryz.ntmps72
  go_wp2_with (at_builtin; refine wpList_append_own_at w rfl _ _ 25 rfl base 69 i0 zF 9 128 Tryz.underlying25 hi hz0 hz1 hz2 rfl (by omega) (.slice A n c) n inner rfl hown ⟨vb, 0, none⟩ 1 1 cs rfl (by rw [hcs]) (by simpa using World.news_of_block (cs := cs.toArray) (t := 69) (fr := (0, 0)) hvb) h1 (by simp only [maxLen]; omega) (by omega) hbase ?_; intro v1 w1 hown1 hg _ hat)
  all_goals
    try (have hce : c = n := by assumption)
    try subst hce
    go_ret
    refine ⟨v1, rfl, hown1, hg, ?_⟩
    rcases hat with hat | hat
    · exact .inl hat
    · exact .inr ⟨_, hat, Nat.le_refl _⟩

theorem cells_seg {w : World} {g : Nat} {cur : List Value} {t : TypeId} (hg : w.heap[g]? = some (.cells cur.toArray t (0, 0))) (o : Nat) (cs : List Value) (h : ∀ j v, cs[j]? = some v → cur[o + j]? = some v) :
    ∀ j v, cs[j]? = some v → w.cell? ((⟨g, o, none⟩ : Addr).add j) = some v := fun j v hj => by
  have := World.news_of_block (w := w) (cs := cur.toArray) (t := t) (fr := (0, 0)) hg (o + j) v (by simpa using h j v hj)
  rw [add_plain] at this
  rw [Addr.add_lit]
  exact this

theorem splice2 {α : Type} (pre more cs suf : List α) (h : cs.length + suf.length ≤ more.length) :
    (splice (splice (pre ++ more) pre.length cs) (pre.length + cs.length) suf).take (pre.length + cs.length + suf.length) = pre ++ cs ++ suf := by
  have e1 : splice (pre ++ more) pre.length cs = pre ++ cs ++ more.drop cs.length := by
    unfold splice
    rw [List.take_left, List.append_assoc, List.drop_append, List.drop_eq_nil_of_le (by omega : pre.length ≤ pre.length + cs.length)]
    simp
  have e2 : splice (pre ++ cs ++ more.drop cs.length) (pre.length + cs.length) suf = pre ++ cs ++ suf ++ (more.drop cs.length).drop suf.length := by
    unfold splice
    rw [show pre.length + cs.length = (pre ++ cs).length by simp, List.take_left, List.drop_append, List.drop_eq_nil_of_le (by omega : (pre ++ cs).length ≤ (pre ++ cs).length + suf.length)]
    simp
  rw [e1, e2, show pre.length + cs.length + suf.length = (pre ++ cs ++ suf).length by simp only [List.length_append], List.take_left]

set_option maxRecDepth 100000 in
set_option maxHeartbeats 4000000 in
/-- Within, no room: a new row. -/
theorem insert_grow (base g n p c : Nat) (cur cs : List Value) (vb : Nat) (w : World) (hgb : base ≤ g) (hg : w.heap[g]? = some (.cells cur.toArray 69 (0, 0))) (hnc : n ≤ c) (hcur : cur.length = c * 9)
    (h1in : ∀ u ∈ cur.take (n * 9), u.oneCell' = true) (hp : p < n) (hroom : c < n + 1)
    (hvb : w.heap[vb]? = some (.cells cs.toArray 69 (0, 0))) (hcs : cs.length = 9) (h1 : ∀ u ∈ cs, u.oneCell' = true) (hbase : base ≤ w.heap.size) (hn : n ≤ 4294967296) :
    Calls Tryz.prog 72 #[.slice (some ⟨g, 0, none⟩) n c, .int .i64 p, .slice (some ⟨vb, 0, none⟩) 1 1] w fun e w' => ∃ v1, e = .returned v1 ∧ w'.ownsRow base 69 9 v1 (n + 1) (cur.take (p * 9) ++ cs ++ (cur.take (n * 9)).drop (p * 9)) ∧
      w.grownBy w' none ∧ (∃ b, v1.ownBlock = some b ∧ w.heap.size ≤ b) := by
  obtain ⟨i0, hi, hz0, hz1, hz2⟩ := info_parts infoF
  have hpn : ((p : Int) == (n : Int)) = false := by simp; omega
  have hcc : ¬ (c = p) := by omega
  obtain ⟨m, hm⟩ : ∃ m : Nat, (n : Int) + 1 - (p : Int) = (m : Int) := ⟨n + 1 - p, by omega⟩
  have hm1 : p + m = n + 1 := by omega
  replace hm1 := Aside0.mk hm1
  have hlp : (cur.take (p * 9)).length = p * 9 := by simp; omega
  obtain ⟨pre, hpre⟩ : ∃ pre, pre = cur.take (p * 9) := ⟨_, rfl⟩
  obtain ⟨suf, hsuf⟩ : ∃ suf, suf = (cur.take (n * 9)).drop (p * 9) := ⟨_, rfl⟩
  rw [← hpre] at hlp
  rw [← hpre, ← hsuf]
  have hsrc := cells_seg hg 0 pre (fun j v hj => by rw [hpre] at hj; rw [Nat.zero_add]; exact by rw [List.getElem?_take] at hj; split at hj; exact hj; cases hj)
  replace hpre := Aside0.mk hpre
  replace hsuf := Aside0.mk hsuf
  have hvl : vb < w.heap.size := (Array.getElem?_eq_some_iff.1 hvb).1
  have hk1 : cs.length = Nat.min 1 m * 9 := by
    rw [hcs, show Nat.min 1 m = 1 from Nat.min_eq_left (by have := hm1.out; omega)]
  replace hk1 := Aside0.mk hk1
  go_enter Tryz.func72, Tryz.ntmps72
  go_wp2_with (first
    | (at_builtin; refine wpList_append_zgrow rfl _ _ 25 3 rfl 69 i0 zF 9 128 Tryz.underlying25 Tryz.underlying3 hi hz0 hz1 hz2 rfl (by omega) (by omega) g p c m .i64 rfl rfl pre hlp hsrc (by have := hm1.out; omega) (by have := hm1.out; omega) (by have := hm1.out; omega) ?_; intro w1 c1 more hG hl1 hle1 hmax1 hg1; have hc1p : ¬ (c1 = p) := by (have := hm1.out; omega))
    | ((with_reducible refine gate_builtin (b := .copy) (xs := #[.tmp 43, .tmp 44]) rfl ?_); refine wpList_copy_wide rfl (.tmp 43) (.tmp 44) 25 25 rfl 69 9 Tryz.underlying25 sizeF w.heap.size (p * 9) m (c1 - p) ⟨vb, 0, none⟩ 1 1 rfl rfl (pre ++ more) 69 hG.out cs hk1.out (cells_seg ((hg1.block vb hvl (by simp)).trans hvb) 0 cs (fun j v hj => by rw [Nat.zero_add]; exact hj)) (by rw [hl1, hcs]; have := hm1.out; omega) h1 ?_; intro w2 hG2 hg2))
  have hc1q : ¬ (c1 = p + 1) := by have := hm1.out; omega
  have hb1 : (0 : Int) ≤ (p : Int) + 1 := by omega
  have hb2 : (p : Int) + 1 ≤ (p : Int) + (m : Int) := by have := hm1.out; omega
  have hb3 : (p : Int) ≤ (n : Int) := by omega
  have hb4 : ((p : Int) + 1).toNat = p + 1 := by omega
  have hgl : g < w.heap.size := (Array.getElem?_eq_some_iff.1 hg).1
  have hls : suf.length = Nat.min (n - p) (p + m - (p + 1)) * 9 := by
    rw [hsuf.out, show Nat.min (n - p) (p + m - (p + 1)) = n - p from Nat.min_eq_left (by have := hm1.out; omega)]
    simp only [List.length_drop, List.length_take, hcur]
    rw [Nat.min_eq_left (Nat.mul_le_mul_right _ hnc)]
    omega
  have h1s : ∀ u ∈ suf, u.oneCell' = true := fun u hu => h1in u (List.mem_of_mem_drop (hsuf.out ▸ hu))
  have hss : ∀ j u, suf[j]? = some u → w2.cell? ((⟨g, p * 9, none⟩ : Addr).add j) = some u :=
    cells_seg (((hg2.block g (Nat.lt_of_lt_of_le hgl hg1.size) (by simp; omega)).trans (hg1.block g hgl (by simp))).trans hg) (p * 9) suf (fun j u hj => by
      rw [hsuf.out, List.getElem?_drop, List.getElem?_take] at hj
      split at hj
      · exact hj
      · cases hj)
  have hlz : (splice (pre ++ more) (p * 9) cs).length = c1 * 9 := by rw [length_splice _ _ _ (by rw [hl1, hcs]; have := hm1.out; omega), hl1]
  have hfit : (p + 1) * 9 + suf.length ≤ (splice (pre ++ more) (p * 9) cs).length := by
    rw [hlz, hls]
    have : Nat.min (n - p) (p + m - (p + 1)) ≤ p + m - (p + 1) := Nat.min_le_right _ _
    have := hm1.out
    omega
  replace hfit := Aside0.mk hfit
  replace hls := Aside0.mk hls
  replace hlz := Aside0.mk hlz
  replace hl1 := Aside0.mk hl1
  replace hlp := Aside0.mk hlp
  replace hcs := Aside0.mk hcs
  replace hcur := Aside0.mk hcur
  have hw1 : IntKind.i64.wrap ((p : Int) + 1) = (p : Int) + 1 := by rw [IntKind.wrap_i64]; omega
  have hG2d : Aside0 (w2.drew.heap[w.heap.size]? = some (.cells (splice (pre ++ more) (p * 9) cs).toArray 69 (0, 0))) := ⟨hG2.out⟩
  have hssd : Aside0 (∀ j u, suf[j]? = some u → w2.drew.cell? ((⟨g, p * 9, none⟩ : Addr).add j) = some u) := ⟨fun j u hj => hss j u hj⟩
  clear hm hb4 hpn hss
  go_region_law (refine step_copy_wide rfl (.tmp 50) (.tmp 53) 25 25 rfl 69 9 Tryz.underlying25 sizeF w.heap.size ((p + 1) * 9) (p + m - (p + 1)) (c1 - (p + 1)) ⟨g, p * 9, none⟩ (n - p) (c - p) (by simp [Act.eval, Act.put]) (by simp [Act.eval, Act.put]) (splice (pre ++ more) (p * 9) cs) 69 hG2d.out suf hls.out hssd.out hfit.out h1s ?_; intro w3 hG3 hg3)
  clear hw1
  go_wp2_with fail
  go_ret
  have hm2 := hm1.out
  have hl2 : (p + m) * 9 = (n + 1) * 9 := by rw [hm2]
  have hls2 : suf.length = (n - p) * 9 := by rw [hls.out, show Nat.min (n - p) (p + m - (p + 1)) = n - p from Nat.min_eq_left (by omega)]
  have hmore : cs.length + suf.length ≤ more.length := by
    have := hl1.out
    simp only [List.length_append] at this
    rw [hlp.out] at this
    rw [hls2, hcs.out]
    omega
  refine ⟨.slice (some ⟨w.heap.size, 0, none⟩) (p + m) c1, rfl, ⟨by simp only [List.length_append, hlp.out, hcs.out, hls2]; omega, .inr ⟨w.heap.size, c1, _, by rw [hm2], hbase, hG3.out, by omega, hmax1, ?_, ?_⟩⟩, ?_, ⟨w.heap.size, rfl, Nat.le_refl _⟩⟩
  · simp only [List.size_toArray]
    rw [length_splice _ _ _ hfit.out, hlz.out]
  · have := splice2 pre more cs suf hmore
    rw [hlp.out, hcs.out, hls2, show p * 9 + 9 = (p + 1) * 9 by omega, show (p + 1) * 9 + (n - p) * 9 = (n + 1) * 9 by omega] at this
    simpa using this
  · have hs1 : w.heap.size ≤ w1.heap.size := hg1.size
    have hs2 : w1.heap.size ≤ w2.heap.size := hg2.size
    have hs3 : w2.heap.size ≤ w3.heap.size := hg3.size
    exact ⟨hg3.os.trans (hg2.os.trans hg1.os), hg3.tape.trans (hg2.tape.trans hg1.tape), hg3.output.trans (hg2.output.trans hg1.output), by omega, fun k hk _ =>
      (hg3.block k (show k < w2.heap.size by omega) (by simp; omega)).trans ((hg2.block k (by omega) (by simp; omega)).trans (hg1.block k hk (by simp)))⟩

theorem splice3' {α : Type} (cur pre cs suf : List α) (hp : cur.take pre.length = pre) (h : pre.length + cs.length + suf.length ≤ cur.length) :
    (splice (splice cur (pre.length + cs.length) suf) pre.length cs).take (pre.length + cs.length + suf.length) = pre ++ cs ++ suf := by
  obtain ⟨X, hX⟩ : ∃ X, cur = pre ++ X := ⟨cur.drop pre.length, by have := List.take_append_drop pre.length cur; rw [hp] at this; exact this.symm⟩
  subst hX
  have hXl : cs.length + suf.length ≤ X.length := by simp only [List.length_append] at h; omega
  have e1 : splice (pre ++ X) (pre.length + cs.length) suf = pre ++ (X.take cs.length ++ (suf ++ X.drop (cs.length + suf.length))) := by
    unfold splice
    rw [List.take_append, List.drop_append, List.take_of_length_le (by omega : pre.length ≤ pre.length + cs.length), List.drop_eq_nil_of_le (by omega : pre.length ≤ pre.length + cs.length + suf.length),
      show pre.length + cs.length - pre.length = cs.length by omega, show pre.length + cs.length + suf.length - pre.length = cs.length + suf.length by omega]
    simp
  have hx : (X.take cs.length).length = cs.length := by rw [List.length_take]; omega
  have e2 : splice (pre ++ (X.take cs.length ++ (suf ++ X.drop (cs.length + suf.length)))) pre.length cs = pre ++ cs ++ suf ++ X.drop (cs.length + suf.length) := by
    unfold splice
    rw [List.take_left, List.drop_append, List.drop_eq_nil_of_le (by omega : pre.length ≤ pre.length + cs.length), show pre.length + cs.length - pre.length = cs.length by omega, List.drop_append, List.drop_eq_nil_of_le (by omega : (X.take cs.length).length ≤ cs.length), hx]
    simp
  rw [e1, e2, show pre.length + cs.length + suf.length = (pre ++ cs ++ suf).length by simp only [List.length_append], List.take_left]

set_option maxRecDepth 100000 in
set_option maxHeartbeats 4000000 in
/-- Within, room: in place. -/
theorem insert_shift (base g n p c : Nat) (cur cs : List Value) (vb : Nat) (w : World) (hgb : base ≤ g) (hg : w.heap[g]? = some (.cells cur.toArray 69 (0, 0))) (hnc : n + 1 ≤ c) (hcm : c ≤ maxLen) (hcur : cur.length = c * 9)
    (h1in : ∀ u ∈ cur.take (n * 9), u.oneCell' = true) (hp : p < n) (hne : vb ≠ g)
    (hvb : w.heap[vb]? = some (.cells cs.toArray 69 (0, 0))) (hcs : cs.length = 9) (h1 : ∀ u ∈ cs, u.oneCell' = true) (hn : n ≤ 4294967296) :
    Calls Tryz.prog 72 #[.slice (some ⟨g, 0, none⟩) n c, .int .i64 p, .slice (some ⟨vb, 0, none⟩) 1 1] w fun e w' => ∃ v1, e = .returned v1 ∧ w'.ownsRow base 69 9 v1 (n + 1) (cur.take (p * 9) ++ cs ++ (cur.take (n * 9)).drop (p * 9)) ∧
      w.grownBy w' (some g) ∧ v1.ownBlock = some g := by
  have hpn : ((p : Int) == (n : Int)) = false := by simp; omega
  have hlp : (cur.take (p * 9)).length = p * 9 := by simp; omega
  obtain ⟨pre, hpre⟩ : ∃ pre, pre = cur.take (p * 9) := ⟨_, rfl⟩
  obtain ⟨suf, hsuf⟩ : ∃ suf, suf = (cur.take (n * 9)).drop (p * 9) := ⟨_, rfl⟩
  rw [← hpre] at hlp
  rw [← hpre, ← hsuf]
  have hls : suf.length = Nat.min (n + 1 - p) (n + 1 - (p + 1)) * 9 := by
    rw [hsuf, show Nat.min (n + 1 - p) (n + 1 - (p + 1)) = n + 1 - (p + 1) from Nat.min_eq_right (by omega)]
    simp only [List.length_drop, List.length_take, hcur]
    omega
  have hls2 : suf.length = (n - p) * 9 := by rw [hls, show Nat.min (n + 1 - p) (n + 1 - (p + 1)) = n - p from (Nat.min_eq_right (by omega)).trans (by omega)]
  have h1s : ∀ u ∈ suf, u.oneCell' = true := fun u hu => h1in u (List.mem_of_mem_drop (hsuf ▸ hu))
  have hss : ∀ j u, suf[j]? = some u → w.drew.cell? ((⟨g, p * 9, none⟩ : Addr).add j) = some u :=
    cells_seg (w := w.drew) hg (p * 9) suf (fun j u hj => by
      rw [hsuf, List.getElem?_drop, List.getElem?_take] at hj
      split at hj
      · exact hj
      · cases hj)
  have hpre2 : cur.take pre.length = pre := by rw [hlp]; exact hpre.symm
  have hfit : (p + 1) * 9 + suf.length ≤ cur.length := by rw [hls2, hcur]; omega
  have hlz : (splice cur ((p + 1) * 9) suf).length = c * 9 := by rw [length_splice _ _ _ hfit, hcur]
  have hfit2 : p * 9 + cs.length ≤ (splice cur ((p + 1) * 9) suf).length := by rw [hlz, hcs]; omega
  have hk1 : cs.length = Nat.min 1 (n + 1 - p) * 9 := by rw [hcs, show Nat.min 1 (n + 1 - p) = 1 from Nat.min_eq_left (by omega)]
  have hsa : w.shape? vb = some (69, cs.length) := by simp [World.shape?, hvb]
  have hsb : w.shape? g = some (69, cur.length) := by simp [World.shape?, hg]
  have hfa : w.frozen? ⟨vb, 0, none⟩ = false := by simp [World.frozen?, hvb]
  have hfe : w.frozen? ⟨vb, cs.length, none⟩ = false := by simp [World.frozen?, hvb]
  have hov : ∀ lb cb, (callFunc 101 #[.slice (some ⟨vb, 0, none⟩) 1 1, .slice (some ⟨g, (p + 1) * 9, none⟩) lb cb]).run Tryz.prog w = .ok (.value (.bool false)) w := fun lb cb => by
    rw [run_callFunc_extern Tryz.func101 (by kernel_rfl) (by kernel_rfl) (by kernel_rfl) (e := Extern.SlicesOverlaps.overlaps #[25, 25] #[4]) (by kernel_rfl),
      Lib.run_overlaps_apart w 25 4 69 Tryz.underlying25 9 (fun w => by kernel_rfl) ⟨vb, 0, none⟩ ⟨g, (p + 1) * 9, none⟩ 1 1 lb cb hne 69 69 cs.length cur.length hsa hsb (by rw [hcur]; omega) hfa hfe]
    rfl
  have hc1 : ¬ (c = p + 1) := by omega
  have hc2 : ¬ (c = p) := by omega
  have hc3 : ¬ (c < n + 1) := by omega
  have hb1 : (0 : Int) ≤ (p : Int) + 1 := by omega
  have hb2 : (p : Int) + 1 ≤ (n : Int) + 1 := by omega
  have hb3 : (p : Int) ≤ (n : Int) + 1 := by omega
  go_enter Tryz.func72, Tryz.ntmps72
  go_wp2_with (simp only [hov])
  replace hls := Aside0.mk hls
  replace hls2 := Aside0.mk hls2
  replace hlz := Aside0.mk hlz
  replace hfit := Aside0.mk hfit
  replace hfit2 := Aside0.mk hfit2
  replace hk1 := Aside0.mk hk1
  replace hlp := Aside0.mk hlp
  replace hcs := Aside0.mk hcs
  replace hcur := Aside0.mk hcur
  replace hpre := Aside0.mk hpre
  replace hpre2 := Aside0.mk hpre2
  replace hsuf := Aside0.mk hsuf
  replace hss := Aside0.mk hss
  clear hov hsa hsb hfa hfe hpn
  have hgd : Aside0 (w.drew.heap[g]? = some (.cells cur.toArray 69 (0, 0))) := ⟨hg⟩
  have hw1 : IntKind.i64.wrap ((p : Int) + 1) = (p : Int) + 1 := by rw [IntKind.wrap_i64]; omega
  go_region_law (refine step_copy_wide rfl (.tmp 73) (.tmp 76) 25 25 rfl 69 9 Tryz.underlying25 sizeF g ((p + 1) * 9) (n + 1 - (p + 1)) (c - (p + 1)) ⟨g, p * 9, none⟩ (n + 1 - p) (c - p) (by simp [Act.eval, Act.put]) (by simp [Act.eval, Act.put]) cur 69 hgd.out suf hls.out hss.out hfit.out h1s ?_; intro w3 hG3 hg3)
  clear hw1
  have hvl : vb < w.heap.size := (Array.getElem?_eq_some_iff.1 hvb).1
  have hvb3 : w3.heap[vb]? = some (.cells cs.toArray 69 (0, 0)) := (hg3.block vb hvl (by simp; omega)).trans hvb
  have hvs := cells_seg hvb3 0 cs (fun j v hj => by rw [Nat.zero_add]; exact hj)
  replace hvs := Aside0.mk hvs
  go_wp2_with ((with_reducible refine gate_builtin (b := .copy) (xs := #[.tmp 80, .tmp 81]) rfl ?_); refine wpList_copy_wide rfl (.tmp 80) (.tmp 81) 25 25 rfl 69 9 Tryz.underlying25 sizeF g (p * 9) (n + 1 - p) (c - p) ⟨vb, 0, none⟩ 1 1 rfl rfl (splice cur ((p + 1) * 9) suf) 69 hG3.out cs hk1.out hvs.out hfit2.out h1 ?_; intro w4 hG4 hg4)
  go_ret
  refine ⟨.slice (some ⟨g, 0, none⟩) (n + 1) c, rfl, ⟨by simp only [List.length_append, hlp.out, hcs.out, hls2.out]; omega, .inr ⟨g, c, _, rfl, hgb, hG4.out, by omega, hcm, ?_, ?_⟩⟩, ?_, rfl⟩
  · simp only [List.size_toArray]
    rw [length_splice _ _ _ hfit2.out, hlz.out]
  · have := splice3' cur pre cs suf hpre2.out (by rw [hlp.out, hcs.out, hls2.out, hcur.out]; omega)
    rw [hlp.out, hcs.out, hls2.out, show p * 9 + 9 = (p + 1) * 9 by omega, show (p + 1) * 9 + (n - p) * 9 = (n + 1) * 9 by omega] at this
    simpa using this
  · exact ⟨hg4.os.trans hg3.os, hg4.tape.trans hg3.tape, hg4.output.trans hg3.output, Nat.le_trans hg3.size hg4.size, fun k hk hne => (hg4.block k (Nat.lt_of_lt_of_le hk hg3.size) hne).trans (hg3.block k hk hne)⟩

/-- What an insertion leaves: the old elements' rows and the new one's are not the row's block. -/
theorem R_inserted {α : Type} {d : Kd α} {e base p : Nat} {ok okp : Nat → Prop} {W w1 : World} {v v1 : Value} {xs : List α} {x : α} {inner cs : List Value} (h0 : ∀ k, v.ownBlock = some k → ok k) (hr : Reps (d.M W base (fun k => ok k ∧ some k ≠ v.ownBlock)) d.sz xs inner) (hp : d.M W base okp x cs) (hokp : ∀ k, okp k → ok k ∧ some k ≠ v.ownBlock) (hfresh : ∀ k, W.heap.size ≤ k → ok k) (hpx : p ≤ xs.length)
    (hown : w1.ownsRow base e d.sz v1 (xs.length + 1) (inner.take (p * d.sz) ++ cs ++ inner.drop (p * d.sz))) (hg : W.grownBy w1 v.ownBlock) (hat : v1.ownBlock = v.ownBlock ∨ ∃ b, v1.ownBlock = some b ∧ W.heap.size ≤ b) : d.R e w1 base ok v1 (xs.take p ++ x :: xs.drop p) := by
  have hne : ∀ k, some k ≠ v.ownBlock → k < W.heap.size → some k ≠ v1.ownBlock := by
    intro k hk hlt
    rcases hat with hat | ⟨b, hb, hle⟩
    · rw [hat]; exact hk
    · rw [hb]
      intro he
      injection he with he
      omega
  have step : ∀ {q : α} {c : List Value} {o : Nat → Prop}, d.M W base o q c → (∀ k, o k → ok k ∧ some k ≠ v.ownBlock) → d.M w1 base (fun k => ok k ∧ some k ≠ v1.ownBlock) q c := by
    intro q c o hq ho
    have h1 := d.M_move (w1 := w1) (fun k hk => hg.block k hk.2.2.1 (ho k hk.1).2) (d.M_bound hq)
    exact d.M_mono (fun k hk => ⟨(ho k hk.1).1, hne k (ho k hk.1).2 hk.2.2.1⟩) h1
  refine ⟨fun k hk => ?_, inner.take (p * d.sz) ++ cs ++ inner.drop (p * d.sz), ?_, ?_⟩
  · rcases hat with hat | ⟨b, hb, hle⟩
    · exact h0 k (hat ▸ hk)
    · rw [hb] at hk
      injection hk with hk
      exact hfresh k (by omega)
  · rw [show (xs.take p ++ x :: xs.drop p).length = xs.length + 1 by simp; omega]
    exact hown
  · have hr' := hr.imp_ (fun _ _ hq => step hq (fun _ hk => hk))
    have h1 := (Kd.reps_take hr' hpx).snoc (step hp hokp) (d.K_len (d.K_of_M hp))
    have h2 := Kd.reps_append h1 (Kd.reps_drop (m := p) hr')
    simpa using h2

set_option maxHeartbeats 1000000 in
/-- **slices.Insert of one field into a row of the call's own.** -/
theorem insert_any (base p : Nat) (ok okp : Nat → Prop) (v : Value) (xs : List JF) (x : JF) (cs : List Value) (vb : Nat) (w : World) (hR : kF.R 69 w base ok v xs) (hM : kF.M w base okp x cs) (hokp : ∀ k, okp k → ok k ∧ some k ≠ v.ownBlock) (hfresh : ∀ k, w.heap.size ≤ k → ok k)
    (hvb : w.heap[vb]? = some (.cells cs.toArray 69 (0, 0))) (hne : v.ownBlock ≠ some vb) (hp : p ≤ xs.length) (hbase : base ≤ w.heap.size) (hn : xs.length ≤ 4294967296) :
    Calls Tryz.prog 72 #[v, .int .i64 p, .slice (some ⟨vb, 0, none⟩) 1 1] w fun e w' => ∃ v1, e = .returned v1 ∧ kF.R 69 w' base ok v1 (xs.take p ++ x :: xs.drop p) ∧ w.grownBy w' v.ownBlock ∧ (v1.ownBlock = v.ownBlock ∨ ∃ b, v1.ownBlock = some b ∧ w.heap.size ≤ b) := by
  obtain ⟨h0, inner, hown, hr⟩ := hR
  have hown' : w.ownsRow base 69 9 v xs.length inner := hown
  have hcs : cs.length = 9 := kF.K_len (kF.K_of_M hM)
  have h1 : ∀ u ∈ cs, u.oneCell' = true := kF.K_one (kF.K_of_M hM)
  have h1in : ∀ u ∈ inner, u.oneCell' = true := Kd.reps_one hr (by show 0 < 9; omega) (fun _ _ hq => kF.K_one (kF.K_of_M hq))
  have hil : inner.length = xs.length * 9 := hown'.1
  by_cases he : p = xs.length
  · subst he
    refine (insert_end base v xs.length inner cs vb w hown' hvb hcs h1 hbase hn).mono ?_
    rintro e w' ⟨v1, rfl, ho, hg, hat⟩
    refine ⟨v1, rfl, R_inserted h0 hr hM hokp hfresh hp ?_ hg hat, hg, hat⟩
    show w'.ownsRow base 69 9 v1 (xs.length + 1) (inner.take (xs.length * 9) ++ cs ++ inner.drop (xs.length * 9))
    rw [← hil, List.take_length, List.drop_length, List.append_nil]
    exact ho
  · have hlt : p < xs.length := by omega
    rcases hown'.2 with ⟨_, hz⟩ | ⟨g, c, cur, rfl, hgb, hg, hnc, hcm, hcs2, htk⟩
    · omega
    · have hcur : cur.toList.length = c * 9 := by simpa using hcs2
      subst htk
      by_cases hroom : xs.length + 1 ≤ c
      · refine (insert_shift base g xs.length p c cur.toList cs vb w hgb hg hroom hcm hcur h1in hlt (fun e => hne (by rw [e]; rfl)) hvb hcs h1 hn).mono ?_
        rintro e w' ⟨v1, rfl, ho, hg1, hat⟩
        exact ⟨v1, rfl, R_inserted h0 hr hM hokp hfresh hp (by
          show w'.ownsRow base 69 9 v1 (xs.length + 1) _
          rw [kF_sz, List.take_take, Nat.min_eq_left (Nat.mul_le_mul_right _ hp)]
          exact ho) hg1 (.inl hat), hg1, .inl hat⟩
      · refine (insert_grow base g xs.length p c cur.toList cs vb w hgb hg hnc hcur h1in hlt (by omega) hvb hcs h1 hbase hn).mono ?_
        rintro e w' ⟨v1, rfl, ho, hg1, hat⟩
        have hg2 : w.grownBy w' (some g) := ⟨hg1.os, hg1.tape, hg1.output, hg1.size, fun k hk _ => hg1.block k hk (by simp)⟩
        exact ⟨v1, rfl, R_inserted h0 hr hM hokp hfresh hp (by
          show w'.ownsRow base 69 9 v1 (xs.length + 1) _
          rw [kF_sz, List.take_take, Nat.min_eq_left (Nat.mul_le_mul_right _ hp)]
          exact ho) hg2 (.inr hat), hg2, .inr hat⟩
end Go.Proofs.YtkdeleafgailhaaGreatDoor
end
section
set_option linter.unusedVariables false
namespace Go.Proofs.YtkdeleafgailhaaGreatDoor
open Go Go.RowKit Go.Shelf
/-- A builder of the call's own: its block b, what it holds. -/
def IsB (B b : Nat) (l : List UInt8) (w : World) : Prop := Lib.IsBuilderF 101 5 B b (Lib.byteCells l) w
def Others (b : Nat) (w w' : World) : Prop := Lib.OthersKept 5 (some b) w w'
theorem writeByte_k (B b : Nat) (l : List UInt8) (c : Int) (hc0 : 0 ≤ c) (hc1 : c ≤ 255) (w : World) (h : IsB B b l w) (hlen : l.length + 1 ≤ 140737488355328) (hBw : B ≤ w.heap.size) :
    Calls Tryz.prog 64 #[.pointer (some ⟨b, 0, none⟩), .int .u8 c] w fun e w' => e = .returned .nilIface ∧ IsB B b (l ++ [c.toNat.toUInt8]) w' ∧ Below B w w' ∧ Others b w w' := by
  refine (Any.Builder_WriteByte_k { Tryz.lays230 with } Tryz.Builder_Extra_230 B b (Lib.byteCells l) c w h (by rw [Lib.byteCells_length]; omega) hBw).mono ?_
  rintro e w' ⟨rfl, h1, h2, h3⟩
  refine ⟨rfl, ?_, h2, h3⟩
  unfold IsB
  rw [Lib.byteCells_append]
  have e1 : Lib.byteCells [c.toNat.toUInt8] = [Value.int .u8 c] := by
    simp only [Lib.byteCells, List.map_cons, List.map_nil]
    rw [show ((c.toNat.toUInt8).toNat : Int) = c by simp; omega]
  rw [e1]
  exact .inr h1
theorem writeString_k (B b : Nat) (l : List UInt8) (s : ByteArray) (w : World) (h : IsB B b l w) (hlen : l.length + s.size ≤ 140737488355328) (hBw : B ≤ w.heap.size) :
    Calls Tryz.prog 61 #[.pointer (some ⟨b, 0, none⟩), .string s] w fun e w' => e = .returned (.tuple #[.int .i64 s.size, .nilIface]) ∧ IsB B b (l ++ s.data.toList) w' ∧ Below B w w' ∧ Others b w w' := by
  refine (Any.Builder_WriteString_k { Tryz.lays230 with } Tryz.Builder_Extra_230 B b (Lib.byteCells l) s w h (by rw [Lib.byteCells_length]; omega) hBw).mono ?_
  rintro e w' ⟨rfl, h1, h2, h3⟩
  refine ⟨rfl, ?_, h2, h3⟩
  unfold IsB
  rw [Lib.byteCells_append]
  exact .inr h1
theorem writeRune_k (B b : Nat) (l : List UInt8) (r : Int) (hr0 : -2147483648 ≤ r) (hr1 : r ≤ 2147483647) (w : World) (h : IsB B b l w) (hlen : l.length + 4 ≤ 140737488355328) (hBw : B ≤ w.heap.size) :
    Calls Tryz.prog 68 #[.pointer (some ⟨b, 0, none⟩), .int .i32 r] w fun e w' => e = .returned (.tuple #[.int .i64 (Lib.runeCells r).length, .nilIface]) ∧ IsB B b (l ++ Lib.encodeRune r) w' ∧ Below B w w' ∧ Others b w w' := by
  refine (Any.Builder_WriteRune_k { Tryz.lays230 with } Tryz.Builder_Extra_230 B b (Lib.byteCells l) r hr0 hr1 w h (by rw [Lib.byteCells_length]; omega) hBw).mono ?_
  rintro e w' ⟨rfl, h1, h2, h3⟩
  refine ⟨rfl, ?_, h2, h3⟩
  unfold IsB
  rw [Lib.byteCells_append, Lib.byteCells_encodeRune]
  exact .inr h1
theorem string_k (B b : Nat) (l : List UInt8) (w : World) (h : IsB B b l w) (hBw : B ≤ w.heap.size) :
    Calls Tryz.prog 65 #[.pointer (some ⟨b, 0, none⟩)] w fun e w' => e = .returned (.string ⟨l.toArray⟩) ∧ IsB B b l w' ∧ Below B w w' ∧ Others b w w' :=
  Tryz.Builder_String_any_k B b l w h hBw
theorem IsB.fresh (w : World) : IsB w.heap.size w.heap.size [] (w.alloc (.cells #[.pointer none, .slice none 0 0] 101)) :=
  Lib.IsBuilderF.of (Lib.fresh_isBuilder 101 5 w)
/-- A builder under way, beside an iterator. -/
structure QS (B b k : Nat) (s : ByteArray) (pos : Nat) (w : World) (acc : List UInt8) (W : World) : Prop where
  isB : IsB B b acc W
  iter : W.heap[k]? = some (.stringIter s pos)
  below : Below B w W
  others : Others b w W
  size : B ≤ W.heap.size
  ne : k ≠ b
theorem writeByte_q {B b k : Nat} {s : ByteArray} {pos : Nat} {w : World} {acc : List UInt8} {W : World} (h : QS B b k s pos w acc W) (hl : acc.length + 8 ≤ 140737488355328) (c : Int) (hc0 : 0 ≤ c) (hc1 : c ≤ 255) :
    Calls Tryz.prog 64 #[.pointer (some ⟨b, 0, none⟩), .int .u8 c] W fun e w' => e = .returned .nilIface ∧ QS B b k s pos w (acc ++ [c.toNat.toUInt8]) w' := by
  refine (writeByte_k B b acc c hc0 hc1 W h.isB (by omega) h.size).mono ?_
  rintro e w' ⟨rfl, h1, h2, h3⟩
  exact ⟨rfl, h1, h3.iter h.iter h.ne, h.below.trans h2, h.others.trans h3, Nat.le_trans h.size h2.size, h.ne⟩
theorem writeString_q {B b k : Nat} {s : ByteArray} {pos : Nat} {w : World} {acc : List UInt8} {W : World} (h : QS B b k s pos w acc W) (t : ByteArray) (hl : acc.length + t.size ≤ 140737488355328) :
    Calls Tryz.prog 61 #[.pointer (some ⟨b, 0, none⟩), .string t] W fun e w' => e = .returned (.tuple #[.int .i64 t.size, .nilIface]) ∧ QS B b k s pos w (acc ++ t.data.toList) w' := by
  refine (writeString_k B b acc t W h.isB hl h.size).mono ?_
  rintro e w' ⟨rfl, h1, h2, h3⟩
  exact ⟨rfl, h1, h3.iter h.iter h.ne, h.below.trans h2, h.others.trans h3, Nat.le_trans h.size h2.size, h.ne⟩
theorem writeRune_q {B b k : Nat} {s : ByteArray} {pos : Nat} {w : World} {acc : List UInt8} {W : World} (h : QS B b k s pos w acc W) (hl : acc.length + 8 ≤ 140737488355328) (r : Int) (hr0 : -2147483648 ≤ r) (hr1 : r ≤ 2147483647) :
    Calls Tryz.prog 68 #[.pointer (some ⟨b, 0, none⟩), .int .i32 r] W fun e w' => e = .returned (.tuple #[.int .i64 (Lib.runeCells r).length, .nilIface]) ∧ QS B b k s pos w (acc ++ Lib.encodeRune r) w' := by
  refine (writeRune_k B b acc r hr0 hr1 W h.isB (by omega) h.size).mono ?_
  rintro e w' ⟨rfl, h1, h2, h3⟩
  exact ⟨rfl, h1, h3.iter h.iter h.ne, h.below.trans h2, h.others.trans h3, Nat.le_trans h.size h2.size, h.ne⟩
theorem QS.next {B b k : Nat} {s : ByteArray} {pos : Nat} {w : World} {acc : List UInt8} {W : World} (h : QS B b k s pos w acc W) (hk : w.heap.size ≤ k) (hBk : B ≤ k) (pos' : Nat) : QS B b k s pos' w acc (W.iterAt k s pos') :=
  ⟨Lib.IsBuilderF.iterAt h.isB h.iter pos', Lib.iterAt_heap W k s pos pos' h.iter, Lib.below_iterAt h.below hBk s pos', fun j o hj hne ho => by
    have hjk : j ≠ k := by
      rintro rfl
      rw [Array.getElem?_eq_none hk] at hj
      cases hj
    rw [Lib.iterAt_other _ _ _ _ _ hjk]
    exact h.others j o hj hne ho, by rw [Lib.iterAt_size]; exact h.size, h.ne⟩
end Go.Proofs.YtkdeleafgailhaaGreatDoor
end
