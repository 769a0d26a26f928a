/- voyagelaw02.JsonNorms returns true for every input and leaves its arguments as they were; the package-level variables that its row lists read as the row says, and the card ties that to the program's text. -/
import Derived.Test.YtkdeleafgailhaaGreatDoorCards
import Derived.Test.YtkdeleafgailhaaGreatDoorTie
import Derived.Test.YtkdeleafgailhaaGreatDoorN21
import Derived.Test.YtkdeleafgailhaaGreatDoorN34
import Derived.WalkKit
import Derived.ProofKit
import Derived.OpenShut
import Derived.ShutString
import Derived.ChangeOld
import Derived.Below
import Derived.SizedLaws
import Derived.Lay
import Derived.LaidHandle
import Derived.SevenTiedAt
set_option linter.unusedVariables false
set_option linter.unusedSimpArgs false
namespace Go.Proofs.YtkdeleafgailhaaGreatDoor.jsonNorms
open Go.ChangeShapes Go.WideShapes Go.ChangeAt Go.RowKit
open Go.ChangeMaps (open_string shut_string)
theorem own : ownKnob Tryz.prog.godebug = none := by kernel_rfl
theorem laidOut : laidOutB Tryz.prog = true := by kernel_rfl
/-- The listed variables but the type's handle. -/
def lD : List (String × DataW Unit) := Rows.jsonNormsRow.laid.filter fun x => x.2.handleName?.isNone
def lH : List (String × DataW Unit) := Rows.jsonNormsRow.laid.filter fun x => x.2.handleName?.isSome
theorem mem_D {n : String} {d : DataW Unit} (h : (n, d) ∈ Rows.jsonNormsRow.laid) (hd : d.handleName? = none) : (n, d) ∈ lD := List.mem_filter.2 ⟨h, by simp [hd]⟩
theorem penv {W : World} (hL : laidMetH Tryz.prog Rows.jsonNormsRow.laid W) : ∃ E, PEnv E W := by
  have h' : laidMet Tryz.prog lD W ∧ handlesMet Tryz.prog lH W := hL
  refine penv_of h'.1 h'.2 (List.mem_filter.2 ⟨?_, by rfl⟩) (mem_D ?_ rfl) (mem_D ?_ rfl) (mem_D ?_ rfl) (mem_D ?_ rfl) (mem_D ?_ rfl) (mem_D ?_ rfl) (mem_D ?_ rfl) (mem_D ?_ rfl) (mem_D ?_ rfl) (mem_D ?_ rfl) (mem_D ?_ rfl)
  all_goals (unfold Rows.jsonNormsRow; repeat (first | exact List.Mem.head _ | refine List.Mem.tail _ ?_))

/-! ### one input that fits -/
noncomputable def handWorld (os : Os) : World :=
  { World.holding Tryz.prog os ⟨#[], #[], []⟩ with heap := (World.holding Tryz.prog os ⟨#[], #[], []⟩).heap.modify 4 fun
      | .cells _ t frozen => .cells #[.iface 167 (.agg #[typeHandle Tryz.prog 51])] t frozen
      | o => o }
noncomputable def laidWorld (os : Os) : World := (handWorld os).layVars Tryz.prog lD
theorem laidWorld_os (os : Os) : (laidWorld os).os = os := World.layVars_os _ _ _
theorem laidWorld_met (os : Os) (args : Array Value) : laidMetH Tryz.prog Rows.jsonNormsRow.laid ((laidWorld os).forCall (fun _ _ => 0) ⟨#[], args, []⟩).memory := by
  have e1 : (lD.filter fun x => (lD.map (·.1)).contains x.1) = lD := List.filter_eq_self.2 fun x hx => List.contains_iff_mem.2 (List.mem_map.2 ⟨x, hx, rfl⟩)
  have e2 : (lD.filter fun x => !(lD.map (·.1)).contains x.1) = [] := List.filter_eq_nil_iff.2 fun x hx => by rw [List.contains_iff_mem.2 (List.mem_map.2 ⟨x, hx, rfl⟩)]; simp
  have h : laidMet Tryz.prog lD (laidWorld os) := laidMet_layVars (w0 := handWorld os) (lD.map (·.1)) [] (by rw [e1]; rfl) (by rw [e1]; kernel_rfl) (by rw [e1]; kernel_rfl) (by rw [e2]; exact LaidIn.none)
  exact laidMetH_of_parts (h.of_heap (by simp [World.memory, World.forCall, Input.heap])) (by kernel_rfl)

set_option maxRecDepth 100000 in
theorem lifted (os : Os) (started : os.Started) (H : Type) (enc : TypeId × Value → H) :
    ReturnsInHanded {} Tryz.checked os 3 .any (fun w args => (Rows.jsonNormsSpec.pre enc Tryz.prog Tryz.f3 [] false w args ∧ laidMetH Tryz.prog Rows.jsonNormsRow.laid w) ∧ sizedMet enc Tryz.prog Tryz.f3 (OpenSpec.ofChange Rows.jsonNormsSpec) false w args)
      (Rows.jsonNormsSpec.post enc Tryz.prog Tryz.f3 false true false false) := by
  refine returnsInHanded_of_change_and (C := Tryz.checked) (X := fun w _ => laidMetH Tryz.prog Rows.jsonNormsRow.laid w) (fun _ _ _ hh h => h.of_heap hh) own started (by kernel_rfl) Tryz.func3
    (ChangeSpec.witness_shaped (enc := enc) (C := Tryz.checked) (os := os) (X := fun w _ => laidMetH Tryz.prog Rows.jsonNormsRow.laid w) false (laidWorld os) #[.agg #[.int .i64 0, .bool false, .bool false, .string ByteArray.empty, .int .i64 0, .string ByteArray.empty, .slice none 0 0, .slice none 0 0], .string ByteArray.empty, .int .i64 0] 8 (laidWorld_os _)
      (World.shaped_of_ZipB (by kernel_rfl) (by kernel_rfl)) (by kernel_rfl) (by kernel_rfl) (by kernel_rfl) (laidWorld_met os _)) ?_
  intro W base args ds gs before hval0 hW _ hsz0 hL _
  have hsz : (DataW.weightsEach Tryz.prog (Tryz.f3.params.toList ++ Rows.jsonNormsSpec.plain.varTypes Tryz.prog) (ds ++ gs)).all (· ≤ reachBytes) = true := hsz0
  have hval : ∀ (j : Nat) t v, Tryz.f3.params[j]? = some t → args[j]? = some v → Value.okWide Tryz.prog W .any base t v := hval0
  have hW' := hW
  obtain ⟨p, q, hA0, hV, rfl, hfz, hnd⟩ := hW
  have hA : DataW.TrodAll enc Tryz.prog W 0 (fun _ => true) true Tryz.f3.params.toList args.toList ds p := hA0
  rw [Tryz.params3] at hA hval hsz
  obtain ⟨v0, vs0, d0, ds0, p0, q0, hargs, rfl, rfl, h0, r0⟩ := trodAll_cons hA
  obtain ⟨v1, vs1, d1, ds1, p1, q1, rfl, rfl, rfl, h1, r1⟩ := trodAll_cons r0
  obtain ⟨v2, vs2, d2, ds2, p2, q2, rfl, rfl, rfl, h2, r2⟩ := trodAll_cons r1
  obtain ⟨rfl, rfl, rfl⟩ := trodAll_nil r2
  obtain rfl : args = #[v0, v1, v2] := by cases args; simp_all
  obtain ⟨rfl, rfl⟩ := trodVars_none hV
  have hs0 : Sm 27 d0 := fun m hm => by
    have := List.all_eq_true.1 hsz m (DataW.weights_mem_each (j := 0) (t := 27) (d := d0) rfl rfl m hm)
    simpa using this
  obtain ⟨cs0, x0, rfl, hK0, hx0⟩ := arg_V (hval 0 27 v0 rfl rfl) h0 hs0
  obtain ⟨s1, rfl, rfl, rfl, hs1⟩ := open_string Tryz.underlying9 (hval 1 9 v1 rfl rfl) h1
  obtain ⟨i2, rfl, rfl, rfl, hw2⟩ := open_int Tryz.underlying3 (hval 2 3 v2 rfl rfl) h2
  obtain ⟨E, hP⟩ := penv hL
  clear hA0 hval0 hsz0 hsz hL
  refine (jsonNorms_any E x0 s1 i2 W cs0 hK0 hP hx0).mono fun e W' ⟨he, bel⟩ => ?_
  subst he
  exact ⟨_, rfl, _, _, _, [], _, [], hW', trodAll_mk1 (shut_bool Tryz.underlying4 _), (trodAll_cons_mk (Below.trod laidOut (by kernel_rfl) (of_decide_eq_true (by kernel_rfl)) h0 bel (trod_lt_V h0)) (trodAll_cons_mk (shut_string Tryz.underlying9 hs1) (trodAll_cons_mk (shut_int Tryz.underlying3 hw2) trodAll_mk0))), rfl, bel.frame _, fun h => by cases h⟩

theorem row_holds : Rows.JsonNormsSaid :=
  OpenClaim.holds_of_wide 3 Tryz.f3 rfl rfl rfl rfl rfl rfl rfl ⟨rfl, rfl, rfl, rfl, rfl⟩ rfl rfl rfl rfl rfl (by kernel_rfl) Tryz.func3 (by kernel_rfl)
    (of_decide_eq_true (by kernel_rfl)) (by unfold Func.isWrapper; first | (rw [if_pos (by decide +kernel)]; kernel_rfl) | (rw [if_neg (by decide +kernel)]; exact ⟨rfl, rfl⟩))
    (fun os started H enc _ => lifted os started H enc)
theorem card_holds : Rows.JsonNormsCardSaid :=
  Claim7.holds_tied_plain_at .later [] Rows.jsonNormsCard.laidKinds true Rows.jsonNormsCard.stood.harness Rows.jsonNormsCard.stood.looks row_holds (fun _ h => by cases h) (by kernel_rfl) (fun _ h => by cases h) jsonNorms_row_tie rfl ⟨rfl, rfl⟩ (by kernel_rfl) rfl
    (fun f fn hf hfn => by
      obtain rfl : f = 3 := Option.some.inj ((show Tryz.prog.funcNamed "voyage/voyagelaw02.JsonNorms" = some 3 by kernel_rfl).symm.trans hf) |>.symm
      obtain rfl : fn = Tryz.f3 := (Option.some.inj (Tryz.func3.symm.trans hfn)).symm
      exact ⟨by kernel_rfl, fun j t ht => by
        rw [Tryz.params3] at ht
        have hm : t ∈ [27, 9, 3] := by simpa using Array.mem_of_getElem? ht
        have hall : ([27, 9, 3].all fun u => !Tryz.prog.wantsStandIn u) = true := by kernel_rfl
        exact (show Tryz.prog.wantsStandIn t = false by simpa using List.all_eq_true.1 hall t hm)⟩)
    (by kernel_rfl)
#print axioms card_holds
end Go.Proofs.YtkdeleafgailhaaGreatDoor.jsonNorms
namespace Go.Proofs.YtkdeleafgailhaaGreatDoor
/-- The card, under a short name, for the claim. -/
theorem jsonNorms_holds : Rows.JsonNormsCardSaid := jsonNorms.card_holds
#print axioms jsonNorms_holds
end Go.Proofs.YtkdeleafgailhaaGreatDoor
