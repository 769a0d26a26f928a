/- voyageref02.apartLists, apartFields: true of rows in blocks apart. voyageref02.Apart: true of values whose rows lie in blocks apart. -/
import Derived.Test.YtkdeleafgailhaaGreatDoorN23
import Derived.Test.YtkdeleafgailhaaGreatDoorN27
section
set_option linter.unusedVariables false
set_option linter.unusedSimpArgs false
namespace Go.Proofs.YtkdeleafgailhaaGreatDoor
open Go Go.RowKit Go.Proofs.YtkdeleafgailhaaGreatDoorW.PrintWords

theorem vs_cells {w : World} {base ET q sz B nl cl : Nat} {A : Option Addr} {L : List Value} (hO : w.ownsRow base ET 1 (.slice A nl cl) nl L) (hL : ∀ v ∈ L, IsRow w q sz B v) (hne : ET ≠ q) (hn : 0 < nl) : ∃ ad gA, A = some ad ∧ gA < w.heap.size ∧ gA ∉ blks L ∧ ∀ W : World, W.heap[gA]? = w.heap[gA]? → ∀ j u, L[j]? = some u → W.cell? (ad.add j) = some u := by
  rcases hO.2 with ⟨_, h0⟩ | ⟨g, c, cur, he, hgb, hg, hnc, hcm, hcs, htk⟩
  · omega
  · injection he with h1 h2 h3
    refine ⟨⟨g, 0, none⟩, g, h1, blk_lt hg, fun hb => ?_, fun W hW j u hj => World.news_of_block (w := W) (hW.trans hg) j u ?_⟩
    · obtain ⟨v, hv, hvb⟩ := List.mem_filterMap.1 hb
      rcases hL v hv with rfl | ⟨n, g', cur', ⟨c', rfl, hh, _⟩, _⟩
      · cases hvb
      · injection hvb with hvb
        subst hvb
        exact blk_ne hg hh hne rfl
    · rw [← htk, List.getElem?_take] at hj
      split at hj
      · simpa using hj
      · cases hj
theorem none_zero {w : World} {q : TypeId} {sz B m c : Nat} (h : IsRow w q sz B (.slice none m c)) : m = 0 := by
  rcases h with h | ⟨n, g, cur, ⟨c', h, _⟩, _⟩
  · injection h
  · cases h
theorem vs_cells2 {w : World} {base ET nl cl : Nat} {A : Option Addr} {L : List Value} (hO : w.ownsRow base ET 1 (.slice A nl cl) nl L) (hn : 0 < nl) : ∃ ad, A = some ad ∧ ∀ j u, L[j]? = some u → w.cell? (ad.add j) = some u := by
  obtain ⟨g, c, he, _, _, h⟩ := own_cells hO hn
  injection he with h1 h2 h3
  exact ⟨_, h1, h⟩
theorem P1.low {q : TypeId} {sz o : Nat} {L : List Value} {Wa W : World} {n k : Nat} (h : P1 q sz o L Wa W n k) : Below 0 Wa W := ⟨h.os, h.tape, h.output, Nat.le_of_eq h.size.symm, fun k hk => absurd hk (Nat.not_lt_zero _)⟩
theorem own_one1 {w : World} {base e sz n : Nat} {v : Value} {L : List Value} (h : w.ownsRow base e sz v n L) : v.oneCell' = true := by
  rcases h.2 with ⟨rfl, _⟩ | ⟨g, c, cur, rfl, _⟩
  · rfl
  · rfl

/-- Only the cells of block g from lo to hi read otherwise. -/
structure Near (W W' : World) (q : TypeId) (g lo hi : Nat) : Prop where
  os : W'.os = W.os
  tape : W'.tape = W.tape
  output : W'.output = W.output
  size : W'.heap.size = W.heap.size
  far : ∀ b, b ≠ g → W'.heap[b]? = W.heap[b]?
  in_ : ∀ cs : Array Value, W.heap[g]? = some (.cells cs q (0, 0)) → ∃ cs' : Array Value, W'.heap[g]? = some (.cells cs' q (0, 0)) ∧ cs'.size = cs.size ∧ ∀ i, i < lo → cs'[i]? = cs[i]?
theorem Near.refl (W : World) (q : TypeId) (g lo hi : Nat) : Near W W q g lo hi := ⟨rfl, rfl, rfl, rfl, fun _ _ => rfl, fun cs h => ⟨cs, h, rfl, fun _ _ => rfl⟩⟩
theorem Near.set {W W' : World} {q : TypeId} {g lo hi : Nat} (h : Near W W' q g lo hi) (j : Nat) (u : Value) (hj : lo ≤ j) : Near W (W'.setCell ⟨g, j, none⟩ u) q g lo hi :=
  ⟨h.os, h.tape, h.output, by rw [World.size_setCell]; exact h.size, fun b hb => (Below.heap_setCell W' ⟨g, j, none⟩ u b hb).trans (h.far b hb), fun cs hcs => by
    obtain ⟨c1, h1, h2, h3⟩ := h.in_ cs hcs
    refine ⟨c1.setIfInBounds j u, blk_set h1 j u, by rw [Array.size_setIfInBounds]; exact h2, fun i hi => ?_⟩
    rw [Array.getElem?_setIfInBounds_ne (by omega)]
    exact h3 i hi⟩
/-- .. and the one at t is z. -/
structure NearV (W W' : World) (q : TypeId) (g lo hi t : Nat) (z : Value) : Prop where
  near : Near W W' q g lo hi
  val : ∀ cs : Array Value, W'.heap[g]? = some (.cells cs q (0, 0)) → t < cs.size → cs[t]? = some z
theorem Near.put {W W' : World} {q : TypeId} {g lo hi : Nat} (h : Near W W' q g lo hi) (t : Nat) (z : Value) (hj : lo ≤ t) : NearV W (W'.setCell ⟨g, t, none⟩ z) q g lo hi t z :=
  ⟨h.set t z hj, fun cs hcs ht => by
    have hlt : g < (W'.setCell ⟨g, t, none⟩ z).heap.size := blk_lt hcs
    rw [World.size_setCell] at hlt
    cases ho : W'.heap[g] with
    | cells c0 q0 fz =>
      have h0 : W'.heap[g]? = some (.cells c0 q0 fz) := by rw [Array.getElem?_eq_getElem hlt, ho]
      have h1 : (W'.setCell ⟨g, t, none⟩ z).heap[g]? = some (.cells (c0.setIfInBounds t z) q0 fz) := by simp [World.setCell, Array.getElem?_modify, h0]
      rw [h1] at hcs
      injection hcs with hcs
      injection hcs with hcs
      subst hcs
      rw [Array.size_setIfInBounds] at ht
      exact Array.getElem?_setIfInBounds_self_of_lt ht
    | _ =>
      simp [World.setCell, Array.getElem?_modify, Array.getElem?_eq_getElem hlt, ho] at hcs⟩
theorem NearV.set {W W' : World} {q : TypeId} {g lo hi t : Nat} {z : Value} (h : NearV W W' q g lo hi t z) (j : Nat) (u : Value) (hj : lo ≤ j) (hne : j ≠ t) (hg : ∃ cs, W.heap[g]? = some (.cells cs q (0, 0))) : NearV W (W'.setCell ⟨g, j, none⟩ u) q g lo hi t z :=
  ⟨h.near.set j u hj, fun cs hcs ht => by
    obtain ⟨c0, h0⟩ := hg
    obtain ⟨c1, h1, _⟩ := h.near.in_ c0 h0
    rw [blk_set h1 j u] at hcs
    injection hcs with hcs
    injection hcs with hcs
    subst hcs
    rw [Array.size_setIfInBounds] at ht
    rw [Array.getElem?_setIfInBounds_ne hne]
    exact h.val c1 h1 ht⟩
theorem P1.near {q : TypeId} {sz o : Nat} {L : List Value} {Wa W W' : World} {n k g m c : Nat} (hN : (blks L).Nodup) (h : P1 q sz o L Wa W n k) (hv : L[n]? = some (.slice (some ⟨g, 0, none⟩) m c)) (hc : ∃ cs : Array Value, W.heap[g]? = some (.cells cs q (0, 0)) ∧ k * sz + sz ≤ cs.size) (ho : o < sz)
    (hW : NearV W W' q g (k * sz) (k * sz + sz) (k * sz + o) (.int .i64 (100 + (n : Int)))) : P1 q sz o L Wa W' n (k + 1) := by
  obtain ⟨cs0, h1, h2⟩ := hc
  refine P1.put (g := g) hN h hv rfl hW.near.os hW.near.tape hW.near.output hW.near.size hW.near.far (fun cs hcs => ?_)
  obtain ⟨cs', h3, h4, h5⟩ := hW.near.in_ cs hcs
  rw [h1] at hcs
  injection hcs with hcs
  injection hcs with hcs
  subst hcs
  refine ⟨cs', h3, h4, hW.val cs' h3 (by omega), fun p hp => h5 _ ?_⟩
  have h6 : (p + 1) * sz ≤ k * sz := Nat.mul_le_mul_right _ hp
  rw [Nat.add_mul] at h6
  omega

set_option maxRecDepth 100000 in
set_option maxHeartbeats 16000000 in
/-- **voyageref02.apartLists.** -/
theorem apartLists_any (w : World) (b0 : Nat) (A : Option Addr) (nl cl B : Nat) (L : List Value) (hO : w.ownsRow b0 24 1 (.slice A nl cl) nl L) (hL : ∀ v ∈ L, IsRow w 27 8 B v) (hN : (blks L).Nodup) (hB : B ≤ 1073741824) (hnl : nl ≤ 1073741824) :
    Calls Tryz.prog 42 #[.slice A nl cl] w fun e w' => e = .returned (.bool true) ∧ Below 0 w w' ∧ ∀ b, b < w.heap.size → b ∉ blks L → w'.heap[b]? = w.heap[b]? := by
  have hLl : L.length = nl := by have := hO.1; omega
  have hat := fun (j : Nat) (hj : j < nl) => (⟨_, List.getElem?_eq_getElem (by omega), List.getElem_mem _⟩ : ∃ v, L[j]? = some v ∧ v ∈ L)
  have hvs := fun (hn : 0 < nl) => vs_cells hO hL (by decide) hn
  replace hat := Aside0.mk hat
  replace hvs := Aside0.mk hvs
  replace hLl := Aside0.mk hLl
  replace hN := Aside0.mk hN
  replace hL := Aside0.mk hL
  clear hO
  go_enter Tryz.func42, Tryz.ntmps42
  go_wp2_with fail
  go_loopw [3, 4] (fun i _ wr => ∃ n : Nat, i = .int .i64 n ∧ n ≤ nl ∧ P1 27 8 0 L w wr n 0) (fun i _ _ => nl - (intOf i).toNat)
  case atStart => exact ⟨0, rfl, Nat.zero_le _, P1.refl hL.out⟩
  case round =>
    obtain ⟨n, rfl, hn, h1⟩ := hrel
    have hn0 : (0 : Int) ≤ (n : Int) := by omega
    by_cases hlt : n < nl
    · have hlt2 : (n : Int) < (nl : Int) := by omega
      obtain ⟨ad, gA, rfl, hgl, hgn, hcells⟩ := hvs.out (by omega)
      obtain ⟨v, hv, hvm⟩ := hat.out n hlt
      obtain ⟨Av, m, c, rfl, hmc, hmB, hmn, hsome⟩ := (h1.row (hL.out v hvm)).form
      have hcr := hcells wr (h1.out _ hgn) n _ hv
      replace h1 := Aside0.mk h1
      replace hv := Aside0.mk hv
      replace hcells := Aside0.mk hcells
      replace hgn := Aside0.mk hgn
      clear hsome
      go_wp2_with fail
      go_loopw [4] (fun i wq => ∃ k : Nat, i = .int .i64 k ∧ k ≤ m ∧ P1 27 8 0 L w wq n k) (fun i _ => m - (intOf i).toNat)
      case atStart => exact ⟨0, rfl, Nat.zero_le _, h1.out⟩
      case round =>
        obtain ⟨k, rfl, hk, h2⟩ := hrel
        have hk0 : (0 : Int) ≤ (k : Int) := by omega
        have hcq := hcells.out _ (h2.out _ hgn.out) n _ hv.out
        clear hcr
        by_cases hk2 : k < m
        · have hk3 : (k : Int) < (m : Int) := by omega
          obtain ⟨Av', m', c', he, _, _, hmn', hsome⟩ := (h2.row (hL.out _ hvm)).form
          injection he with he1 he2 he3
          subst he1 he2 he3
          cases Av with
          | none => exact absurd (hmn' rfl) (by omega)
          | some av =>
          obtain ⟨hav, cg, hg1, hg2⟩ := hsome av rfl
          obtain ⟨g, rfl⟩ : ∃ g, av = ⟨g, 0, none⟩ := ⟨_, hav⟩
          have hg1 : _ = some (Obj.cells cg 27 (0, 0)) := hg1
          have hfg := frozenAll hg1
          have hsz : k * 8 + 8 ≤ cg.size := by omega
          obtain ⟨u0, hu0⟩ := cell_in hg1 (j := k * 8) (by omega)
          obtain ⟨u1, hu1⟩ := cell_in hg1 (j := k * 8 + 1) (by omega)
          obtain ⟨u2, hu2⟩ := cell_in hg1 (j := k * 8 + 2) (by omega)
          obtain ⟨u3, hu3⟩ := cell_in hg1 (j := k * 8 + 3) (by omega)
          obtain ⟨u4, hu4⟩ := cell_in hg1 (j := k * 8 + 4) (by omega)
          obtain ⟨u5, hu5⟩ := cell_in hg1 (j := k * 8 + 5) (by omega)
          obtain ⟨u6, hu6⟩ := cell_in hg1 (j := k * 8 + 6) (by omega)
          obtain ⟨u7, hu7⟩ := cell_in hg1 (j := k * 8 + 7) (by omega)
          have hgc : Aside0 (∃ cs : Array Value, wr.heap[g]? = some (.cells cs 27 (0, 0))) := ⟨cg, hg1⟩
          have hgs : Aside0 (∃ cs : Array Value, wr.heap[g]? = some (.cells cs 27 (0, 0)) ∧ k * 8 + 8 ≤ cs.size) := ⟨cg, hg1, hsz⟩
          clear hav hg2 hsz hg1
          replace h2 := Aside0.mk h2
          go_wp2_with fail
          go_roundw
          case measure => first | (simp [intOf]; done) | (simp [intOf]; omega)
          exact ⟨k + 1, by go_num, by omega, P1.near hN.out h2.out hv.out hgs.out (by decide) (((((((((Near.refl _ _ _ (k * 8) (k * 8 + 8)).put _ _ (by omega)).set _ _ (by omega) (by omega) hgc.out).set _ _ (by omega) (by omega) hgc.out).set _ _ (by omega) (by omega) hgc.out).set _ _ (by omega) (by omega) hgc.out).set _ _ (by omega) (by omega) hgc.out).set _ _ (by omega) (by omega) hgc.out).set _ _ (by omega) (by omega) hgc.out)⟩
        · obtain rfl : m = k := by omega
          have hno : ¬ (m : Int) < (m : Int) := by omega
          have h3 := Aside0.mk (P1.next (v := .slice Av m c) hL.out hv.out h2)
          clear h2
          go_wp2_with fail
          go_roundw
          case measure => first | (simp [intOf]; done) | (simp [intOf]; omega)
          exact ⟨n + 1, by go_num, by omega, h3.out⟩
    · obtain rfl : nl = n := by omega
      have hno : ¬ (nl : Int) < (nl : Int) := by omega
      obtain ⟨w1, hw1⟩ : ∃ w1, w1 = wr := ⟨_, rfl⟩
      rw [← hw1] at h1 ⊢
      clear hw1
      have hL1 : Aside0 (∀ v ∈ L, IsRow w1 27 8 B v) := ⟨fun v hv => h1.row (hL.out v hv)⟩
      have h20 := Aside0.mk (P2.start h1 (by rw [hLl.out]; exact Nat.le_refl _))
      replace h1 := Aside0.mk h1
      go_wp2_with fail
      go_loopw [5, 6, 7, 8] (fun u5 i _ _ wr => ∃ (n : Nat) (ls : List Value), i = .int .i64 n ∧ n ≤ nl ∧ wr.ownsRow w1.heap.size 24 1 u5 n ls ∧ P2 27 8 0 L w1 wr ls n) (fun _ i _ _ _ => nl - (intOf i).toNat)
      case atStart => exact ⟨0, [], rfl, Nat.zero_le _, own_nil _ _ _ _, h20.out⟩
      case round =>
        obtain ⟨n, ls, rfl, hn, hu5, h2⟩ := hrel
        have hn0 : (0 : Int) ≤ (n : Int) := by omega
        clear hno
        by_cases hlt : n < nl
        · have hlt2 : (n : Int) < (nl : Int) := by omega
          obtain ⟨ad, gA, rfl, hgl, hgn, hcells⟩ := hvs.out (by omega)
          obtain ⟨v, hv, hvm⟩ := hat.out n hlt
          obtain ⟨Av, m, c, rfl, hmc, hmB, hmn, hsome⟩ := (hL1.out v hvm).form
          have hcr := hcells wr ((h2.out _ (by rw [h1.out.size]; exact hgl) hgn).trans (h1.out.out _ hgn)) n _ hv
          obtain ⟨inner0, h30⟩ := P3.start h2 (hL1.out _ hvm) hv (by decide)
          have hrn : rowN (.slice Av m c) = m := rfl
          have hvl : ∀ g, (Value.slice Av m c).ownBlock = some g → g < w1.heap.size := fun g hg => (hL1.out _ hvm).lt hg
          have hlw := h2.low.size
          replace h2 := Aside0.mk h2
          replace hv := Aside0.mk hv
          replace h30 := Aside0.mk h30
          replace hu5 := Aside0.mk hu5
          replace hrn := Aside0.mk hrn
          replace hvl := Aside0.mk hvl
          clear hsome hcells hmn hgn
          go_wp2_with fail
          go_loopw [7, 8] (fun x i wx => ∃ (k : Nat) (inner : List Value), i = .int .i64 k ∧ k ≤ 6 ∧ P3 27 8 0 wr wx (.slice Av m c) x n k inner) (fun _ i _ => 6 - (intOf i).toNat)
          case atStart => exact ⟨0, inner0, rfl, Nat.zero_le _, h30.out⟩
          case round =>
            obtain ⟨k, inner, rfl, hk, h3⟩ := hrel
            have hk0 : (0 : Int) ≤ (k : Int) := by omega
            clear hcr
            by_cases hk2 : k < 6
            · have hk3 : (k : Int) < 6 := by omega
              replace h3 := Aside0.mk h3
              go_wp2_with ((with_reducible refine gate_builtin (b := .append) (xs := #[.tmp 49, .tmp 53]) rfl ?_); at_builtin; refine append_apart (W := wr) rfl (.tmp 49) (.tmp 53) 24 27 zV 8 112 rfl Tryz.underlying24 infoV rfl (by omega) (by omega) _ (rowN (.slice Av m c) + k) inner [.int .i64 (-100 - (n : Int)), .bool false, .bool false, .string ⟨#[]⟩, .int .i64 0, .string ⟨#[]⟩, .slice none 0 0, .slice none 0 0] rfl rfl rfl (by simp [Value.oneCell']) h3.out.own (by rw [hrn.out]; omega) ?_; intro x1 wy hownx hA; have h4 := Aside0.mk (P3.step h3.out (by decide) rfl rfl (fun g hg => Nat.lt_of_lt_of_le (hvl.out g hg) hlw) hownx hA); clear hownx hA)
              go_roundw
              case measure => first | (simp [intOf]; done) | (simp [intOf]; omega)
              exact ⟨k + 1, _, by go_num, by omega, h4.out⟩
            · obtain rfl : k = 6 := by omega
              have hno6 : ¬ ((6 : Nat) : Int) < 6 := by omega
              have hux : wr.ownsRow w1.heap.size 24 1 u5 n ls := ownsRow_move hu5.out (fun b hb hb2 => h3.out b hb2 (fun e => by have := hvl.out b e.symm; omega))
              obtain ⟨Ax, cx, hxe⟩ := own_slice h3.own
              rw [hrn.out] at hxe
              subst hxe
              have hx1 := own_one1 h3.own
              have hsx := h3.low.size
              have hz1 : w1.heap.size ≤ wr.heap.size := by omega
              replace h3 := Aside0.mk h3
              replace hux := Aside0.mk hux
              have hll : ls.length = n := h2.out.len
              replace hll := Aside0.mk hll
              go_wp2_with ((with_reducible refine gate_builtin (b := .append) (xs := #[.tmp 55, .tmp 57]) rfl ?_); at_builtin; refine print_append_cells (w0 := wr) w1.heap.size rfl (.tmp 55) (.tmp 57) 33 24 (.slice none 0 0) 1 24 rfl Tryz.underlying33 infoLL rfl (by omega) (by omega) u5 n ls [.slice Ax (m + 6) cx] (by rfl) (by rfl) rfl (by intro u hu; rw [List.mem_singleton] at hu; subst hu; exact hx1) hux.out (Below.refl _ _) hz1 (by omega) ?_; intro v5 w5 hO5 hB5 hg5 hat5; have h5 := Aside0.mk (P2.next h2.out hN.out hL1.out hv.out h3.out (by decide) hux.out (by decide) hg5); clear hg5 hat5 hB5; replace hO5 := Aside0.mk hO5)
              go_roundw
              case measure => first | (simp [intOf]; done) | (simp [intOf]; omega)
              exact ⟨n + 1, _, by go_num, by omega, hO5.out, h5.out⟩
        · obtain rfl : nl = n := by omega
          have hno : ¬ (nl : Int) < (nl : Int) := by omega
          obtain ⟨A5, c5, rfl⟩ := own_slice hu5
          have hlow := Aside0.mk (h1.out.low.trans h2.low)
          have hfar : Aside0 (∀ b, b < w.heap.size → b ∉ blks L → wr.heap[b]? = w.heap[b]?) := ⟨fun b hb hb2 => (h2.out b (by rw [h1.out.size]; exact hb) hb2).trans (h1.out.out b hb2)⟩
          replace hu5 := Aside0.mk hu5
          replace h2 := Aside0.mk h2
          clear h20
          go_wp2_with fail
          go_loopw [9, 10] (fun i _ wq => ∃ n : Nat, i = .int .i64 n ∧ n ≤ nl ∧ wq = wr) (fun i _ _ => nl - (intOf i).toNat)
          case atStart => exact ⟨0, rfl, Nat.zero_le _, rfl⟩
          case round =>
            obtain ⟨n, rfl, hn, rfl⟩ := hrel
            have hn0 : (0 : Int) ≤ (n : Int) := by omega
            clear hno
            by_cases hlt : n < nl
            · have hlt2 : (n : Int) < (nl : Int) := by omega
              obtain ⟨ad, gA, rfl, hgl, hgn, hcells⟩ := hvs.out (by omega)
              obtain ⟨v, hv, hvm⟩ := hat.out n hlt
              obtain ⟨Av, m, c, rfl, hmc, hmB, hmn, hsome⟩ := (hL1.out v hvm).form
              have hcr := hcells wr ((h2.out.out _ (by rw [h1.out.size]; exact hgl) hgn).trans (h1.out.out _ hgn)) n _ hv
              obtain ⟨ad5, rfl, hc5⟩ := vs_cells2 hu5.out (by omega)
              have hls : ls.length = nl := h2.out.len
              obtain ⟨g', c', cur', he', hcap', hh', hk1', hk2', _⟩ := (h2.out.long n _ _ hlt hv (List.getElem?_eq_getElem (show n < ls.length by omega))).is
              have hcr5 := hc5 n _ ((List.getElem?_eq_getElem (show n < ls.length by omega)).trans (congrArg some he'))
              have hold := h2.out.old n _ hv
              have hrn : rowN (.slice Av m c) = m := rfl
              rw [hrn] at hcr5 hk1' hk2' hold hcap'
              obtain ⟨m6, hm6⟩ : ∃ q, q = m + 6 := ⟨_, rfl⟩
              rw [← hm6] at hcr5 hk2' hcap'
              replace hold := Aside0.mk hold
              replace hk1' := Aside0.mk hk1'
              replace hk2' := Aside0.mk hk2'
              replace hh' := Aside0.mk hh'
              replace hls := Aside0.mk hls
              replace hm6 := Aside0.mk hm6
              replace hgn := Aside0.mk hgn
              have hm6b : m6 ≤ 1073741830 := by have := hm6.out; omega
              clear hcells hc5 hrn he' hmn
              replace hsome := Aside0.mk hsome
              replace hv := Aside0.mk hv
              go_wp2_with fail
              go_loopw [10] (fun i wq => ∃ k : Nat, i = .int .i64 k ∧ k ≤ m6 ∧ wq = wr) (fun i _ => m6 - (intOf i).toNat)
              case atStart => exact ⟨0, rfl, Nat.zero_le _, rfl⟩
              case round =>
                obtain ⟨k, rfl, hk, rfl⟩ := hrel
                have hk0 : (0 : Int) ≤ (k : Int) := by omega
                by_cases hk6 : k < m6
                · have hk7 : (k : Int) < (m6 : Int) := by omega
                  by_cases hkm : k < m
                  · have hk3 : (k : Int) < (m : Int) := by omega
                    have hk4 : ¬ (m : Int) ≤ (k : Int) := by omega
                    cases Av with
                    | none => exact absurd (none_zero (hL1.out _ hvm)) (by omega)
                    | some av =>
                    obtain ⟨hav, _⟩ := hsome.out av rfl
                    obtain ⟨g, rfl⟩ : ∃ g, av = ⟨g, 0, none⟩ := ⟨_, hav⟩
                    obtain ⟨cur, hh, hkk⟩ := hold.out g rfl
                    have q1 := (blk_cell hh (k * 8)).trans (hkk k hkm)
                    have q2 := (blk_cell hh'.out (k * 8)).trans (hk1'.out k hkm)
                    clear hav
                    replace hh := Aside0.mk hh
                    replace hkk := Aside0.mk hkk
                    go_wp2_with fail
                    go_roundw
                    case measure => first | (simp [intOf]; done) | (simp [intOf]; omega)
                    exact ⟨k + 1, by go_num, by omega, by first | rfl | trivial⟩
                  · have hk3 : ¬ (k : Int) < (m : Int) := by omega
                    have hk4 : (m : Int) ≤ (k : Int) := by omega
                    have q2 := (blk_cell hh'.out (k * 8)).trans (hk2'.out k (by omega) hk6)
                    go_wp2_with fail
                    go_roundw
                    case measure => first | (simp [intOf]; done) | (simp [intOf]; omega)
                    exact ⟨k + 1, by go_num, by omega, by first | rfl | trivial⟩
                · obtain rfl : m6 = k := by omega
                  have hno6 : ¬ (m6 : Int) < (m6 : Int) := by omega
                  go_wp2_with fail
                  go_roundw
                  case measure => first | (simp [intOf]; done) | (simp [intOf]; omega)
                  exact ⟨n + 1, by go_num, by omega, by first | rfl | trivial⟩
            · obtain rfl : nl = n := by omega
              have hno : ¬ (nl : Int) < (nl : Int) := by omega
              go_wp2_with fail
              go_ret
              exact ⟨rfl, hlow.out, hfar.out⟩

set_option maxRecDepth 100000 in
set_option maxHeartbeats 16000000 in
/-- **voyageref02.apartFields.** -/
theorem apartFields_any (w : World) (b0 : Nat) (A : Option Addr) (nl cl B : Nat) (L : List Value) (hO : w.ownsRow b0 25 1 (.slice A nl cl) nl L) (hL : ∀ v ∈ L, IsRow w 69 9 B v) (hN : (blks L).Nodup) (hB : B ≤ 1073741824) (hnl : nl ≤ 1073741824) :
    Calls Tryz.prog 43 #[.slice A nl cl] w fun e w' => e = .returned (.bool true) ∧ Below 0 w w' ∧ ∀ b, b < w.heap.size → b ∉ blks L → w'.heap[b]? = w.heap[b]? := by
  have hLl : L.length = nl := by have := hO.1; omega
  have hat := fun (j : Nat) (hj : j < nl) => (⟨_, List.getElem?_eq_getElem (by omega), List.getElem_mem _⟩ : ∃ v, L[j]? = some v ∧ v ∈ L)
  have hvs := fun (hn : 0 < nl) => vs_cells hO hL (by decide) hn
  replace hat := Aside0.mk hat
  replace hvs := Aside0.mk hvs
  replace hLl := Aside0.mk hLl
  replace hN := Aside0.mk hN
  replace hL := Aside0.mk hL
  clear hO
  go_enter Tryz.func43, Tryz.ntmps43
  go_wp2_with fail
  go_loopw [3, 4] (fun i _ wr => ∃ n : Nat, i = .int .i64 n ∧ n ≤ nl ∧ P1 69 9 1 L w wr n 0) (fun i _ _ => nl - (intOf i).toNat)
  case atStart => exact ⟨0, rfl, Nat.zero_le _, P1.refl hL.out⟩
  case round =>
    obtain ⟨n, rfl, hn, h1⟩ := hrel
    have hn0 : (0 : Int) ≤ (n : Int) := by omega
    by_cases hlt : n < nl
    · have hlt2 : (n : Int) < (nl : Int) := by omega
      obtain ⟨ad, gA, rfl, hgl, hgn, hcells⟩ := hvs.out (by omega)
      obtain ⟨v, hv, hvm⟩ := hat.out n hlt
      obtain ⟨Av, m, c, rfl, hmc, hmB, hmn, hsome⟩ := (h1.row (hL.out v hvm)).form
      have hcr := hcells wr (h1.out _ hgn) n _ hv
      replace h1 := Aside0.mk h1
      replace hv := Aside0.mk hv
      replace hcells := Aside0.mk hcells
      replace hgn := Aside0.mk hgn
      clear hsome
      go_wp2_with fail
      go_loopw [4] (fun i wq => ∃ k : Nat, i = .int .i64 k ∧ k ≤ m ∧ P1 69 9 1 L w wq n k) (fun i _ => m - (intOf i).toNat)
      case atStart => exact ⟨0, rfl, Nat.zero_le _, h1.out⟩
      case round =>
        obtain ⟨k, rfl, hk, h2⟩ := hrel
        have hk0 : (0 : Int) ≤ (k : Int) := by omega
        have hcq := hcells.out _ (h2.out _ hgn.out) n _ hv.out
        clear hcr
        by_cases hk2 : k < m
        · have hk3 : (k : Int) < (m : Int) := by omega
          obtain ⟨Av', m', c', he, _, _, hmn', hsome⟩ := (h2.row (hL.out _ hvm)).form
          injection he with he1 he2 he3
          subst he1 he2 he3
          cases Av with
          | none => exact absurd (hmn' rfl) (by omega)
          | some av =>
          obtain ⟨hav, cg, hg1, hg2⟩ := hsome av rfl
          obtain ⟨g, rfl⟩ : ∃ g, av = ⟨g, 0, none⟩ := ⟨_, hav⟩
          have hg1 : _ = some (Obj.cells cg 69 (0, 0)) := hg1
          have hfg := frozenAll hg1
          have hsz : k * 9 + 9 ≤ cg.size := by omega
          obtain ⟨u0, hu0⟩ := cell_in hg1 (j := k * 9) (by omega)
          obtain ⟨u1, hu1⟩ := cell_in hg1 (j := k * 9 + 1) (by omega)
          obtain ⟨u2, hu2⟩ := cell_in hg1 (j := k * 9 + 2) (by omega)
          obtain ⟨u3, hu3⟩ := cell_in hg1 (j := k * 9 + 3) (by omega)
          obtain ⟨u4, hu4⟩ := cell_in hg1 (j := k * 9 + 4) (by omega)
          obtain ⟨u5, hu5⟩ := cell_in hg1 (j := k * 9 + 5) (by omega)
          obtain ⟨u6, hu6⟩ := cell_in hg1 (j := k * 9 + 6) (by omega)
          obtain ⟨u7, hu7⟩ := cell_in hg1 (j := k * 9 + 7) (by omega)
          obtain ⟨u8, hu8⟩ := cell_in hg1 (j := k * 9 + 8) (by omega)
          have hgc : Aside0 (∃ cs : Array Value, wr.heap[g]? = some (.cells cs 69 (0, 0))) := ⟨cg, hg1⟩
          have hgs : Aside0 (∃ cs : Array Value, wr.heap[g]? = some (.cells cs 69 (0, 0)) ∧ k * 9 + 9 ≤ cs.size) := ⟨cg, hg1, hsz⟩
          clear hav hg2 hsz hg1
          replace h2 := Aside0.mk h2
          go_wp2_with fail
          go_roundw
          case measure => first | (simp [intOf]; done) | (simp [intOf]; omega)
          exact ⟨k + 1, by go_num, by omega, P1.near hN.out h2.out hv.out hgs.out (by decide) ((((((((((Near.refl _ _ _ (k * 9) (k * 9 + 9)).set _ _ (by omega)).put _ _ (by omega)).set _ _ (by omega) (by omega) hgc.out).set _ _ (by omega) (by omega) hgc.out).set _ _ (by omega) (by omega) hgc.out).set _ _ (by omega) (by omega) hgc.out).set _ _ (by omega) (by omega) hgc.out).set _ _ (by omega) (by omega) hgc.out).set _ _ (by omega) (by omega) hgc.out)⟩
        · obtain rfl : m = k := by omega
          have hno : ¬ (m : Int) < (m : Int) := by omega
          have h3 := Aside0.mk (P1.next (v := .slice Av m c) hL.out hv.out h2)
          clear h2
          go_wp2_with fail
          go_roundw
          case measure => first | (simp [intOf]; done) | (simp [intOf]; omega)
          exact ⟨n + 1, by go_num, by omega, h3.out⟩
    · obtain rfl : nl = n := by omega
      have hno : ¬ (nl : Int) < (nl : Int) := by omega
      obtain ⟨w1, hw1⟩ : ∃ w1, w1 = wr := ⟨_, rfl⟩
      rw [← hw1] at h1 ⊢
      clear hw1
      have hL1 : Aside0 (∀ v ∈ L, IsRow w1 69 9 B v) := ⟨fun v hv => h1.row (hL.out v hv)⟩
      have h20 := Aside0.mk (P2.start h1 (by rw [hLl.out]; exact Nat.le_refl _))
      replace h1 := Aside0.mk h1
      go_wp2_with fail
      go_loopw [5, 6, 7, 8] (fun u5 i _ _ wr => ∃ (n : Nat) (ls : List Value), i = .int .i64 n ∧ n ≤ nl ∧ wr.ownsRow w1.heap.size 25 1 u5 n ls ∧ P2 69 9 1 L w1 wr ls n) (fun _ i _ _ _ => nl - (intOf i).toNat)
      case atStart => exact ⟨0, [], rfl, Nat.zero_le _, own_nil _ _ _ _, h20.out⟩
      case round =>
        obtain ⟨n, ls, rfl, hn, hu5, h2⟩ := hrel
        have hn0 : (0 : Int) ≤ (n : Int) := by omega
        clear hno
        by_cases hlt : n < nl
        · have hlt2 : (n : Int) < (nl : Int) := by omega
          obtain ⟨ad, gA, rfl, hgl, hgn, hcells⟩ := hvs.out (by omega)
          obtain ⟨v, hv, hvm⟩ := hat.out n hlt
          obtain ⟨Av, m, c, rfl, hmc, hmB, hmn, hsome⟩ := (hL1.out v hvm).form
          have hcr := hcells wr ((h2.out _ (by rw [h1.out.size]; exact hgl) hgn).trans (h1.out.out _ hgn)) n _ hv
          obtain ⟨inner0, h30⟩ := P3.start h2 (hL1.out _ hvm) hv (by decide)
          have hrn : rowN (.slice Av m c) = m := rfl
          have hvl : ∀ g, (Value.slice Av m c).ownBlock = some g → g < w1.heap.size := fun g hg => (hL1.out _ hvm).lt hg
          have hlw := h2.low.size
          replace h2 := Aside0.mk h2
          replace hv := Aside0.mk hv
          replace h30 := Aside0.mk h30
          replace hu5 := Aside0.mk hu5
          replace hrn := Aside0.mk hrn
          replace hvl := Aside0.mk hvl
          clear hsome hcells hmn hgn
          go_wp2_with fail
          go_loopw [7, 8] (fun x i wx => ∃ (k : Nat) (inner : List Value), i = .int .i64 k ∧ k ≤ 6 ∧ P3 69 9 1 wr wx (.slice Av m c) x n k inner) (fun _ i _ => 6 - (intOf i).toNat)
          case atStart => exact ⟨0, inner0, rfl, Nat.zero_le _, h30.out⟩
          case round =>
            obtain ⟨k, inner, rfl, hk, h3⟩ := hrel
            have hk0 : (0 : Int) ≤ (k : Int) := by omega
            clear hcr
            by_cases hk2 : k < 6
            · have hk3 : (k : Int) < 6 := by omega
              replace h3 := Aside0.mk h3
              go_wp2_with ((with_reducible refine gate_builtin (b := .append) (xs := #[.tmp 50, .tmp 55]) rfl ?_); at_builtin; refine append_apart (W := wr) rfl (.tmp 50) (.tmp 55) 25 69 zF 9 128 rfl Tryz.underlying25 infoF rfl (by omega) (by omega) _ (rowN (.slice Av m c) + k) inner [.string ⟨#[]⟩, .int .i64 (-100 - (n : Int)), .bool false, .bool false, .string ⟨#[]⟩, .int .i64 0, .string ⟨#[]⟩, .slice none 0 0, .slice none 0 0] rfl rfl rfl (by simp [Value.oneCell']) h3.out.own (by rw [hrn.out]; omega) ?_; intro x1 wy hownx hA; have h4 := Aside0.mk (P3.step h3.out (by decide) rfl rfl (fun g hg => Nat.lt_of_lt_of_le (hvl.out g hg) hlw) hownx hA); clear hownx hA)
              go_roundw
              case measure => first | (simp [intOf]; done) | (simp [intOf]; omega)
              exact ⟨k + 1, _, by go_num, by omega, h4.out⟩
            · obtain rfl : k = 6 := by omega
              have hno6 : ¬ ((6 : Nat) : Int) < 6 := by omega
              have hux : wr.ownsRow w1.heap.size 25 1 u5 n ls := ownsRow_move hu5.out (fun b hb hb2 => h3.out b hb2 (fun e => by have := hvl.out b e.symm; omega))
              obtain ⟨Ax, cx, hxe⟩ := own_slice h3.own
              rw [hrn.out] at hxe
              subst hxe
              have hx1 := own_one1 h3.own
              have hsx := h3.low.size
              have hz1 : w1.heap.size ≤ wr.heap.size := by omega
              replace h3 := Aside0.mk h3
              replace hux := Aside0.mk hux
              have hll : ls.length = n := h2.out.len
              replace hll := Aside0.mk hll
              go_wp2_with ((with_reducible refine gate_builtin (b := .append) (xs := #[.tmp 57, .tmp 59]) rfl ?_); at_builtin; refine print_append_cells (w0 := wr) w1.heap.size rfl (.tmp 57) (.tmp 59) 34 25 (.slice none 0 0) 1 24 rfl Tryz.underlying34 infoFF rfl (by omega) (by omega) u5 n ls [.slice Ax (m + 6) cx] (by rfl) (by rfl) rfl (by intro u hu; rw [List.mem_singleton] at hu; subst hu; exact hx1) hux.out (Below.refl _ _) hz1 (by omega) ?_; intro v5 w5 hO5 hB5 hg5 hat5; have h5 := Aside0.mk (P2.next h2.out hN.out hL1.out hv.out h3.out (by decide) hux.out (by decide) hg5); clear hg5 hat5 hB5; replace hO5 := Aside0.mk hO5)
              go_roundw
              case measure => first | (simp [intOf]; done) | (simp [intOf]; omega)
              exact ⟨n + 1, _, by go_num, by omega, hO5.out, h5.out⟩
        · obtain rfl : nl = n := by omega
          have hno : ¬ (nl : Int) < (nl : Int) := by omega
          obtain ⟨A5, c5, rfl⟩ := own_slice hu5
          have hlow := Aside0.mk (h1.out.low.trans h2.low)
          have hfar : Aside0 (∀ b, b < w.heap.size → b ∉ blks L → wr.heap[b]? = w.heap[b]?) := ⟨fun b hb hb2 => (h2.out b (by rw [h1.out.size]; exact hb) hb2).trans (h1.out.out b hb2)⟩
          replace hu5 := Aside0.mk hu5
          replace h2 := Aside0.mk h2
          clear h20
          go_wp2_with fail
          go_loopw [9, 10] (fun i _ wq => ∃ n : Nat, i = .int .i64 n ∧ n ≤ nl ∧ wq = wr) (fun i _ _ => nl - (intOf i).toNat)
          case atStart => exact ⟨0, rfl, Nat.zero_le _, rfl⟩
          case round =>
            obtain ⟨n, rfl, hn, rfl⟩ := hrel
            have hn0 : (0 : Int) ≤ (n : Int) := by omega
            clear hno
            by_cases hlt : n < nl
            · have hlt2 : (n : Int) < (nl : Int) := by omega
              obtain ⟨ad, gA, rfl, hgl, hgn, hcells⟩ := hvs.out (by omega)
              obtain ⟨v, hv, hvm⟩ := hat.out n hlt
              obtain ⟨Av, m, c, rfl, hmc, hmB, hmn, hsome⟩ := (hL1.out v hvm).form
              have hcr := hcells wr ((h2.out.out _ (by rw [h1.out.size]; exact hgl) hgn).trans (h1.out.out _ hgn)) n _ hv
              obtain ⟨ad5, rfl, hc5⟩ := vs_cells2 hu5.out (by omega)
              have hls : ls.length = nl := h2.out.len
              obtain ⟨g', c', cur', he', hcap', hh', hk1', hk2', _⟩ := (h2.out.long n _ _ hlt hv (List.getElem?_eq_getElem (show n < ls.length by omega))).is
              have hcr5 := hc5 n _ ((List.getElem?_eq_getElem (show n < ls.length by omega)).trans (congrArg some he'))
              have hold := h2.out.old n _ hv
              have hrn : rowN (.slice Av m c) = m := rfl
              rw [hrn] at hcr5 hk1' hk2' hold hcap'
              obtain ⟨m6, hm6⟩ : ∃ q, q = m + 6 := ⟨_, rfl⟩
              rw [← hm6] at hcr5 hk2' hcap'
              replace hold := Aside0.mk hold
              replace hk1' := Aside0.mk hk1'
              replace hk2' := Aside0.mk hk2'
              replace hh' := Aside0.mk hh'
              replace hls := Aside0.mk hls
              replace hm6 := Aside0.mk hm6
              replace hgn := Aside0.mk hgn
              have hm6b : m6 ≤ 1073741830 := by have := hm6.out; omega
              clear hcells hc5 hrn he' hmn
              replace hsome := Aside0.mk hsome
              replace hv := Aside0.mk hv
              go_wp2_with fail
              go_loopw [10] (fun i wq => ∃ k : Nat, i = .int .i64 k ∧ k ≤ m6 ∧ wq = wr) (fun i _ => m6 - (intOf i).toNat)
              case atStart => exact ⟨0, rfl, Nat.zero_le _, rfl⟩
              case round =>
                obtain ⟨k, rfl, hk, rfl⟩ := hrel
                have hk0 : (0 : Int) ≤ (k : Int) := by omega
                by_cases hk6 : k < m6
                · have hk7 : (k : Int) < (m6 : Int) := by omega
                  by_cases hkm : k < m
                  · have hk3 : (k : Int) < (m : Int) := by omega
                    have hk4 : ¬ (m : Int) ≤ (k : Int) := by omega
                    cases Av with
                    | none => exact absurd (none_zero (hL1.out _ hvm)) (by omega)
                    | some av =>
                    obtain ⟨hav, _⟩ := hsome.out av rfl
                    obtain ⟨g, rfl⟩ : ∃ g, av = ⟨g, 0, none⟩ := ⟨_, hav⟩
                    obtain ⟨cur, hh, hkk⟩ := hold.out g rfl
                    have q1 := (blk_cell hh (k * 9 + 1)).trans (hkk k hkm)
                    have q2 := (blk_cell hh'.out (k * 9 + 1)).trans (hk1'.out k hkm)
                    clear hav
                    replace hh := Aside0.mk hh
                    replace hkk := Aside0.mk hkk
                    go_wp2_with fail
                    go_roundw
                    case measure => first | (simp [intOf]; done) | (simp [intOf]; omega)
                    exact ⟨k + 1, by go_num, by omega, by first | rfl | trivial⟩
                  · have hk3 : ¬ (k : Int) < (m : Int) := by omega
                    have hk4 : (m : Int) ≤ (k : Int) := by omega
                    have q2 := (blk_cell hh'.out (k * 9 + 1)).trans (hk2'.out k (by omega) hk6)
                    go_wp2_with fail
                    go_roundw
                    case measure => first | (simp [intOf]; done) | (simp [intOf]; omega)
                    exact ⟨k + 1, by go_num, by omega, by first | rfl | trivial⟩
                · obtain rfl : m6 = k := by omega
                  have hno6 : ¬ (m6 : Int) < (m6 : Int) := by omega
                  go_wp2_with fail
                  go_roundw
                  case measure => first | (simp [intOf]; done) | (simp [intOf]; omega)
                  exact ⟨n + 1, by go_num, by omega, by first | rfl | trivial⟩
            · obtain rfl : nl = n := by omega
              have hno : ¬ (nl : Int) < (nl : Int) := by omega
              go_wp2_with fail
              go_ret
              exact ⟨rfl, hlow.out, hfar.out⟩
end Go.Proofs.YtkdeleafgailhaaGreatDoor
end
section
set_option linter.unusedVariables false
set_option linter.unusedSimpArgs false
namespace Go.Proofs.YtkdeleafgailhaaGreatDoor
open Go Go.RowKit Go.Proofs.YtkdeleafgailhaaGreatDoorW.PrintWords

theorem own_other {W W' : World} {base t t' sz sz' n n' : Nat} {u v : Value} {xs ys : List Value} (h : W.ownsRow base t sz u n xs) (h' : W.ownsRow base t' sz' v n' ys) (hne : t ≠ t') (hg : W.grownBy W' v.ownBlock) : W'.ownsRow base t sz u n xs :=
  own_move h fun k hk => by
    obtain ⟨cur, hc⟩ := own_typed h k hk
    exact hg.block k (blk_lt hc) (own_ne h' hc (Ne.symm hne))
theorem apart_nodup {L F : List Value} {S : List Nat} (h : ∀ a, (blks L).count a + (blks F).count a = S.count a) (hS : S.Nodup) : (blks L).Nodup ∧ (blks F).Nodup ∧ (∀ b ∈ blks F, b ∉ blks L) ∧ ∀ b, (b ∈ blks L ∨ b ∈ blks F) → b ∈ S := by
  have h1 := List.nodup_iff_count.1 hS
  refine ⟨List.nodup_iff_count.2 fun a => by have := h a; have := h1 a; omega, List.nodup_iff_count.2 fun a => by have := h a; have := h1 a; omega, fun b hb hb2 => ?_, fun b hb => ?_⟩
  · have e1 := List.count_pos_iff.2 hb
    have e2 := List.count_pos_iff.2 hb2
    have := h b
    have := h1 b
    omega
  · apply List.count_pos_iff.1
    have := h b
    rcases hb with hb | hb
    · have := List.count_pos_iff.2 hb; omega
    · have := List.count_pos_iff.2 hb; omega
set_option maxRecDepth 100000 in
set_option maxHeartbeats 16000000 in
theorem apart_any (w : World) (base : Nat) (A : Option Addr) (n c g : Nat) (xs : List JV) (cur : Array Value) (Se : List Nat) (hC : kV.C w A n xs) (hrow : RowBlk w 27 8 (.slice A n c) xs.length g cur) (hA : APL w xs cur.toList Se) (hN : Se.Nodup) (hSb : ∀ k ∈ Se, base ≤ k) (hbw : base ≤ w.heap.size) (hwt : JV.wtL xs ≤ 1073741824) (hin : JV.intsL xs) :
    Calls Tryz.prog 20 #[.slice A n c] w fun e w' => e = .returned (.bool true) ∧ Below base w w' := by
  have hlen := hC.1
  have hll := wtL_len xs
  have htr := APL_tree xs hA
  have hlt := APL_lt xs hA
  have hbl : ∀ j, j ≤ n → (lsL w (xs.take j) cur.toList).length ≤ JV.wtL xs := fun j _ => Nat.le_trans (lsL_take_le w xs j cur.toList) htr.2.2.2.1
  have hbf : ∀ j, j ≤ n → (fsL w (xs.take j) cur.toList).length ≤ JV.wtL xs := fun j _ => Nat.le_trans (fsL_take_le w xs j cur.toList) htr.2.2.2.2
  have hn9 : n ≤ 1073741824 := by omega
  replace htr := Aside0.mk htr
  replace hlt := Aside0.mk hlt
  replace hlen := Aside0.mk hlen
  replace hbl := Aside0.mk hbl
  replace hbf := Aside0.mk hbf
  replace hrow := Aside0.mk hrow
  replace hA := Aside0.mk hA
  replace hN := Aside0.mk hN
  replace hSb := Aside0.mk hSb
  replace hin := Aside0.mk hin
  go_enter Tryz.func20, Tryz.ntmps20
  go_wp2_with fail
  go_loopw [3, 4, 5] (fun u3 u4 i wr => ∃ j : Nat, i = .int .i64 j ∧ j ≤ n ∧ wr.ownsRow w.heap.size 24 1 u3 (lsL w (xs.take j) cur.toList).length (lsL w (xs.take j) cur.toList) ∧ wr.ownsRow w.heap.size 25 1 u4 (fsL w (xs.take j) cur.toList).length (fsL w (xs.take j) cur.toList) ∧ Below w.heap.size w wr) (fun _ _ i _ => n - (intOf i).toNat)
  case atStart =>
    refine ⟨0, rfl, Nat.zero_le _, ?_, ?_, Below.refl _ _⟩
    · rw [List.take_zero, lsL]; exact own_nil _ _ _ _
    · rw [List.take_zero, fsL]; exact own_nil _ _ _ _
  case round =>
    obtain ⟨j, rfl, hj, hO, hO2, hB⟩ := hrel
    by_cases hlj : j < n
    · obtain ⟨ad, x, A6, c6, A7, c7, Sj, rfl, hx, hcs, hK, hdt, hAx, hSj⟩ := at_VA hC hrow.out hA.out j hlj
      unfold JV.cells at hcs hK hdt hAx
      obtain ⟨q0, q1, q2, q3, q4, q5, q6, q7, _⟩ := hcs
      have hxm : x ∈ xs := List.mem_of_getElem? hx
      have hwx := wt_memL hxm
      have hix := ints_memL hxm hin.out
      have hsn := lsL_snoc w xs j x cur.toList hx
      rw [hdt] at hsn
      have hmv : ∀ W, Below w.heap.size w W → ∀ q ∈ Sj, W.heap[q]? = w.heap[q]? := fun W hb q hq => hb.block q (AP_lt x hAx q hq)
      have cL := fun (W : World) (hb : Below w.heap.size w W) => rlists_any x W _ Sj (kV.K_below hb hK) (AP_move x hAx (hmv W hb)) (by omega) hix
      have cF := fun (W : World) (hb : Below w.heap.size w W) => rfields_any x W _ Sj (kV.K_below hb hK) (AP_move x hAx (hmv W hb)) (by omega) hix
      have eL : ∀ W, Below w.heap.size w W → lsV W x [.int .i64 x.kind, .bool x.truth, .bool x.neg, .string x.digits, .int .i64 x.exp, .string x.text, .slice A6 x.list.length c6, .slice A7 x.fields.length c7] = lsV w x [.int .i64 x.kind, .bool x.truth, .bool x.neg, .string x.digits, .int .i64 x.exp, .string x.text, .slice A6 x.list.length c6, .slice A7 x.fields.length c7] := fun W hb => (ls_move x hAx (hmv W hb)).1
      have eF : ∀ W, Below w.heap.size w W → fsV W x [.int .i64 x.kind, .bool x.truth, .bool x.neg, .string x.digits, .int .i64 x.exp, .string x.text, .slice A6 x.list.length c6, .slice A7 x.fields.length c7] = fsV w x [.int .i64 x.kind, .bool x.truth, .bool x.neg, .string x.digits, .int .i64 x.exp, .string x.text, .slice A6 x.list.length c6, .slice A7 x.fields.length c7] := fun W hb => (ls_move x hAx (hmv W hb)).2
      have htx := AP_tree x hAx
      have hpL := lsV_pos w x [.int .i64 x.kind, .bool x.truth, .bool x.neg, .string x.digits, .int .i64 x.exp, .string x.text, .slice A6 x.list.length c6, .slice A7 x.fields.length c7]
      have hpF := fsV_pos w x [.int .i64 x.kind, .bool x.truth, .bool x.neg, .string x.digits, .int .i64 x.exp, .string x.text, .slice A6 x.list.length c6, .slice A7 x.fields.length c7]
      have cL1 := cL wr hB
      rw [eL wr hB] at cL1
      have cF1 : ∀ W, Below w.heap.size w W → Calls Tryz.prog 41 #[.agg (List.toArray [.int .i64 x.kind, .bool x.truth, .bool x.neg, .string x.digits, .int .i64 x.exp, .string x.text, .slice A6 x.list.length c6, .slice A7 x.fields.length c7])] W fun e w' => ∃ v, e = .returned v ∧ w'.ownsRow W.heap.size 25 1 v (fsV w x [.int .i64 x.kind, .bool x.truth, .bool x.neg, .string x.digits, .int .i64 x.exp, .string x.text, .slice A6 x.list.length c6, .slice A7 x.fields.length c7]).length (fsV w x [.int .i64 x.kind, .bool x.truth, .bool x.neg, .string x.digits, .int .i64 x.exp, .string x.text, .slice A6 x.list.length c6, .slice A7 x.fields.length c7]) ∧ Below W.heap.size W w' := fun W hb => by
        have := cF W hb
        rw [eF W hb] at this
        exact this
      generalize (lsV w x [.int .i64 x.kind, .bool x.truth, .bool x.neg, .string x.digits, .int .i64 x.exp, .string x.text, .slice A6 x.list.length c6, .slice A7 x.fields.length c7]) = LL at hsn cL1 htx hpL
      generalize (fsV w x [.int .i64 x.kind, .bool x.truth, .bool x.neg, .string x.digits, .int .i64 x.exp, .string x.text, .slice A6 x.list.length c6, .slice A7 x.fields.length c7]) = FF at hsn cF1 htx hpF
      generalize hm9 : LL.length = m at cL1 hpL
      generalize hm8 : FF.length = mf at cF1 hpF
      have hmb : m ≤ 1073741824 := by have := htx.2.2.2.1; omega
      have hfb : mf ≤ 1073741824 := by have := htx.2.2.2.2; omega
      have r0 := pw_cell_below hB q0
      have r1 := pw_cell_below hB q1
      have r2 := pw_cell_below hB q2
      have r3 := pw_cell_below hB q3
      have r4 := pw_cell_below hB q4
      have r5 := pw_cell_below hB q5
      have r6 := pw_cell_below hB q6
      have r7 := pw_cell_below hB q7
      have s0 := fun W (hb : Below w.heap.size w W) => pw_cell_below hb q0
      have s1 := fun W (hb : Below w.heap.size w W) => pw_cell_below hb q1
      have s2 := fun W (hb : Below w.heap.size w W) => pw_cell_below hb q2
      have s3 := fun W (hb : Below w.heap.size w W) => pw_cell_below hb q3
      have s4 := fun W (hb : Below w.heap.size w W) => pw_cell_below hb q4
      have s5 := fun W (hb : Below w.heap.size w W) => pw_cell_below hb q5
      have s6 := fun W (hb : Below w.heap.size w W) => pw_cell_below hb q6
      have s7 := fun W (hb : Below w.heap.size w W) => pw_cell_below hb q7
      have hbl1 := hbl.out j hj
      have hbf1 := hbf.out j hj
      have hjI : (j : Int) < (n : Int) := by omega
      have hj0 : (0 : Int) ≤ (j : Int) := by omega
      replace hO := Aside0.mk hO
      replace hO2 := Aside0.mk hO2
      replace cL1 := Aside0.mk cL1
      replace cF1 := Aside0.mk cF1
      replace hsn := Aside0.mk hsn
      replace hm9 := Aside0.mk hm9
      replace hm8 := Aside0.mk hm8
      replace htx := Aside0.mk htx
      replace hbl1 := Aside0.mk hbl1
      replace hbf1 := Aside0.mk hbf1
      replace hB := Aside0.mk hB
      replace s0 := Aside0.mk s0
      replace s1 := Aside0.mk s1
      replace s2 := Aside0.mk s2
      replace s3 := Aside0.mk s3
      replace s4 := Aside0.mk s4
      replace s5 := Aside0.mk s5
      replace s6 := Aside0.mk s6
      replace s7 := Aside0.mk s7
      clear hxm q0 q1 q2 q3 q4 q5 q6 q7 hAx hK hdt hSj cL cF eL eF hmv
      go_upto_region 7 with (first
        | ((with_reducible refine gate_builtin (b := .append) (xs := #[.tmp 14, .tmp 19]) rfl ?_); at_builtin; refine rows_append (w0 := w4) w.heap.size rfl (.tmp 14) (.tmp 19) 33 24 (.slice none 0 0) 24 rfl Tryz.underlying33 infoLL rfl (by omega) u3 (lsL w (xs.take j) cur.toList) LL ⟨gL, 0, none⟩ m cL9 (by rfl) (by rfl) hO4.out hm9.out hcellL.out (fun u hu => slice_one (htx.out.1 u hu)) (Below.refl _ _) hs4 (by have := hbl1.out; omega) ?_; intro v5 w5 hO5 hB5 hg5; have hO25 := Aside0.mk (own_other hO24.out hO4.out (by decide) hg5); replace hO5 := Aside0.mk hO5; have hB6 := Aside0.mk (hL4.out.trans hB5); clear hg5 hB5)
        | (go_at_call 40; refine cL1.out.mono ?_; clear cL1; rintro e w4 ⟨v4, rfl, hO9, hb4⟩; obtain ⟨gL, cL9, rfl, hgb9, hcap9, hcellL⟩ := own_cells hO9 hpL; have hO4 := Aside0.mk (pw_own_below hO.out hb4); have hO24 := Aside0.mk (pw_own_below hO2.out hb4); have hL4 := Aside0.mk (hB.out.trans (hb4.mono hB.out.size)); have hs4 : w.heap.size ≤ w4.heap.size := hL4.out.size; replace hcellL := Aside0.mk hcellL; clear hO9))
      clear r0 r1 r2 r3 r4 r5 r6 r7
      have r0 := s0.out w5 hB6.out
      have r1 := s1.out w5 hB6.out
      have r2 := s2.out w5 hB6.out
      have r3 := s3.out w5 hB6.out
      have r4 := s4.out w5 hB6.out
      have r5 := s5.out w5 hB6.out
      have r6 := s6.out w5 hB6.out
      have r7 := s7.out w5 hB6.out
      have cF2 := Aside0.mk (cF1.out w5 hB6.out)
      clear cF1
      go_wp2_with (first
        | ((with_reducible refine gate_builtin (b := .append) (xs := #[.tmp 21, .tmp 26]) rfl ?_); at_builtin; refine rows_append (w0 := w6) w.heap.size rfl (.tmp 21) (.tmp 26) 34 25 (.slice none 0 0) 24 rfl Tryz.underlying34 infoFF rfl (by omega) u4 (fsL w (xs.take j) cur.toList) FF ⟨gF, 0, none⟩ mf cF9 (by rfl) (by rfl) hO26.out hm8.out hcellF.out (fun u hu => slice_one (htx.out.2.1 u hu)) (Below.refl _ _) hs6 (by have := hbf1.out; omega) ?_; intro v7 w7 hO27 hB7 hg7; have hO7 := Aside0.mk (own_other hO6.out hO26.out (by decide) hg7); replace hO27 := Aside0.mk hO27; have hB8 := Aside0.mk (hL6.out.trans hB7); clear hg7 hB7)
        | (go_at_call 41; refine cF2.out.mono ?_; clear cF2; rintro e w6 ⟨v6, rfl, hO9, hb6⟩; obtain ⟨gF, cF9, rfl, hgb8, hcap8, hcellF⟩ := own_cells hO9 hpF; have hO6 := Aside0.mk (pw_own_below hO5.out hb6); have hO26 := Aside0.mk (pw_own_below hO25.out hb6); have hL6 := Aside0.mk (hB6.out.trans (hb6.mono hB6.out.size)); have hs6 : w.heap.size ≤ w6.heap.size := hL6.out.size; replace hcellF := Aside0.mk hcellF; clear hO9))
      go_roundw
      case measure => first | (simp [intOf]; done) | (simp [intOf]; omega)
      refine ⟨j + 1, by go_num, by omega, ?_, ?_, hB8.out⟩
      · rw [hsn.out.1]; exact hO7.out
      · rw [hsn.out.2]; exact hO27.out
    · obtain rfl : n = j := by omega
      rw [← hlen.out, List.take_length] at hO hO2
      obtain ⟨AL, cLv, rfl⟩ := own_slice hO
      obtain ⟨AF, cFv, rfl⟩ := own_slice hO2
      obtain ⟨hNL, hNF, hdis, hsub⟩ := apart_nodup htr.out.2.2.1 hN.out
      have hLlt : ∀ b, b ∈ blks (lsL w xs cur.toList) → b < w.heap.size := fun b hb => hlt.out b (hsub b (.inl hb))
      have hFlt : ∀ b, b ∈ blks (fsL w xs cur.toList) → b < w.heap.size := fun b hb => hlt.out b (hsub b (.inr hb))
      have hLr : ∀ v ∈ lsL w xs cur.toList, IsRow wr 27 8 (JV.wtL xs) v := fun v hv => (htr.out.1 v hv).move (fun b hb => hB.block b (hLlt b (List.mem_filterMap.2 ⟨v, hv, hb⟩)))
      have hFr : ∀ W : World, (∀ b, b < wr.heap.size → b ∉ blks (lsL w xs cur.toList) → W.heap[b]? = wr.heap[b]?) → ∀ v ∈ fsL w xs cur.toList, IsRow W 69 9 (JV.wtL xs) v := fun W hW v hv => (htr.out.2.1 v hv).move (fun b hb => by
        have hb1 := hFlt b (List.mem_filterMap.2 ⟨v, hv, hb⟩)
        have hb2 := hdis b (List.mem_filterMap.2 ⟨v, hv, hb⟩)
        exact (hW b (Nat.lt_of_lt_of_le hb1 hB.size) hb2).trans (hB.block b hb1))
      have hF2 : ∀ W : World, (∀ b, b < wr.heap.size → b ∉ blks (lsL w xs cur.toList) → W.heap[b]? = wr.heap[b]?) → W.ownsRow w.heap.size 25 1 (.slice AF (fsL w xs cur.toList).length cFv) (fsL w xs cur.toList).length (fsL w xs cur.toList) := fun W hW => ownsRow_move hO2 (fun b hb hb2 => hW b hb2 (fun hb3 => by have := hLlt b hb3; omega))
      have hlow2 : ∀ W1 W2 : World, Below 0 wr W1 → (∀ b, b < wr.heap.size → b ∉ blks (lsL w xs cur.toList) → W1.heap[b]? = wr.heap[b]?) → Below 0 W1 W2 → (∀ b, b < W1.heap.size → b ∉ blks (fsL w xs cur.toList) → W2.heap[b]? = W1.heap[b]?) → Below base w W2 := fun W1 W2 h1 h2 h3 h4 => by
        have b1 := (hB.mono hbw).trans (⟨h1.os, h1.tape, h1.output, h1.size, fun b hb => h2 b (by have := hB.size; omega) (fun hb3 => ?_)⟩ : Below base wr W1)
        · refine b1.trans (⟨h3.os, h3.tape, h3.output, h3.size, fun b hb => h4 b (by have := hB.size; have := h1.size; omega) (fun hb3 => ?_)⟩ : Below base W1 W2)
          have := hSb.out b (hsub b (.inr hb3))
          omega
        · have := hSb.out b (hsub b (.inl hb3))
          omega
      have hl1 := htr.out.2.2.2.1
      have hl2 := htr.out.2.2.2.2
      have cA := apartLists_any wr w.heap.size AL (lsL w xs cur.toList).length cLv (JV.wtL xs) (lsL w xs cur.toList) hO hLr hNL hwt (by omega)
      have cB := fun (W : World) (hW : ∀ b, b < wr.heap.size → b ∉ blks (lsL w xs cur.toList) → W.heap[b]? = wr.heap[b]?) => apartFields_any W w.heap.size AF (fsL w xs cur.toList).length cFv (JV.wtL xs) (fsL w xs cur.toList) (hF2 W hW) (hFr W hW) hNF hwt (by omega)
      generalize lsL w xs cur.toList = LL at *
      generalize fsL w xs cur.toList = FF at *
      replace cA := Aside0.mk cA
      replace cB := Aside0.mk cB
      replace hlow2 := Aside0.mk hlow2
      have hno : ¬ (n : Int) < (n : Int) := by omega
      clear hO hO2 hNL hNF hdis hsub hLlt hFlt hLr hFr hF2 hl1 hl2 hB
      go_wp2_with (first
        | (go_at_call 42; refine cA.out.mono ?_; clear cA; rintro e w1 ⟨rfl, hb1, hf1⟩; have cB1 := Aside0.mk (cB.out w1 hf1); have hb1' := Aside0.mk hb1; have hf1' := Aside0.mk hf1; clear cB hb1 hf1)
        | (go_at_call 43; refine cB1.out.mono ?_; clear cB1; rintro e w2 ⟨rfl, hb2, hf2⟩; have hend := Aside0.mk (hlow2.out _ _ hb1'.out hf1'.out hb2 hf2); clear hb2 hf2))
      go_ret
      exact ⟨rfl, hend.out⟩
end Go.Proofs.YtkdeleafgailhaaGreatDoor
end
