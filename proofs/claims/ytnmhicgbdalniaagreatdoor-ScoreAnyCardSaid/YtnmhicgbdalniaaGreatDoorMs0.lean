/- ScoreAny: usage, scores, order and choice are what the document says, for every state, pod, names and direction that the row admits. -/
import Derived.Test.YtnmhicgbdalniaaGreatDoorRows
import Derived.Test.YtnmhicgbdalniaaGreatDoorCards
import Derived.Test.YtnmhicgbdalniaaGreatDoorTie
import Derived.Test.YtnmhicgbdalniaaGreatDoorMs21
import Derived.Test.YtnmhicgbdalniaaGreatDoorMs22
import Derived.Test.YtnmhicgbdalniaaGreatDoorMs50
import Derived.WalkKit
import Derived.ProofKit
import Derived.OpenShut
import Derived.ShutString
import Derived.ChangeOld
import Derived.Below
import Derived.SizedLaws
namespace Go.Proofs.YtnmhicgbdalniaaGreatDoor.scoreAny
open Go.ChangeShapes Go.WideShapes Go.ChangeAt Go.RowKit
open Go.ChangeMaps (open_string shut_string)
set_option linter.unusedVariables false
theorem own : ownKnob Tryz.prog.godebug = none := by kernel_rfl
theorem laidOut : laidOutB Tryz.prog = true := by kernel_rfl
set_option maxRecDepth 100000 in
theorem lifted (os : Os) (started : os.Started) (H : Type) (enc : TypeId × Value → H) :
    ReturnsInHanded {} Tryz.checked os 9 .any (fun w args => (Rows.scoreAnySpec.pre enc Tryz.prog Tryz.f9 Rows.scoreAnyRow.domain false w args ∧ laidMetH Tryz.prog laidL w) ∧ sizedMet enc Tryz.prog Tryz.f9 (OpenSpec.ofChange Rows.scoreAnySpec) false w args) (Rows.scoreAnySpec.post enc Tryz.prog Tryz.f9 false true false false) := by
  refine returnsInHanded_of_change_and (C := Tryz.checked) (X := fun w _ => laidMetH Tryz.prog laidL w) (fun _ _ _ hh h => h.of_heap hh) own started (by kernel_rfl) Tryz.func9
    (ChangeSpec.witness_at (enc := enc) (C := Tryz.checked) (os := os) (X := fun w _ => laidMetH Tryz.prog laidL w) false (laidWorld os) #[.agg #[.slice none 0 0, .slice none 0 0, .slice none 0 0], .agg #[.string ⟨#[]⟩, .string ⟨#[]⟩, .int .i64 0, .slice none 0 0, .slice none 0 0, .slice none 0 0, .slice none 0 0, .string ⟨#[]⟩, .int .i64 0, .string ⟨#[]⟩, .bool false], .string ⟨#[]⟩, .string ⟨#[]⟩, .bool false] 8 rfl (by kernel_rfl) (by kernel_rfl) (by kernel_rfl) (by kernel_rfl) (by kernel_rfl) (laid_met os _)) ?_
  intro W base args ds gs before hval0 hW hcnd hsz hL _
  have hval : ∀ (j : Nat) t v, Tryz.f9.params[j]? = some t → args[j]? = some v → Value.okWide Tryz.prog W .any base t v := hval0
  have hW' := hW
  obtain ⟨p, q, hA0, hV, rfl, hfz, hnd⟩ := hW
  have hA : DataW.TrodAll enc Tryz.prog W 0 (fun _ => true) true Tryz.f9.params.toList args.toList ds p := hA0
  rw [Tryz.params9] at hA hval hsz
  obtain ⟨v0, vs0, d0, ds0, p0, q0, hargs, rfl, rfl, h0, r0⟩ := trodAll_cons hA
  obtain ⟨v1, vs1, d1, ds1, p1, q1, rfl, rfl, rfl, h1, r1⟩ := trodAll_cons r0
  obtain ⟨v2, vs2, d2, ds2, p2, q2, rfl, rfl, rfl, h2, r2⟩ := trodAll_cons r1
  obtain ⟨v3, vs3, d3, ds3, p3, q3, rfl, rfl, rfl, h3, r3⟩ := trodAll_cons r2
  obtain ⟨v4, vs4, d4, ds4, p4, q4, rfl, rfl, rfl, h4, r4⟩ := trodAll_cons r3
  obtain ⟨rfl, rfl, rfl⟩ := trodAll_nil r4
  obtain rfl : args = #[v0, v1, v2, v3, v4] := by cases args; simp_all
  obtain ⟨rfl, rfl⟩ := trodVars_none hV
  have hw0 : ∀ n ∈ d0.weights Tryz.prog 26, n ≤ reachBytes := fun n hn => of_decide_eq_true (List.all_eq_true.1 hsz n (by have hn' : n ∈ d0.weights Tryz.checked.prog 26 := hn; simp [DataW.weightsEach, hn']))
  have hw1 : ∀ n ∈ d1.weights Tryz.prog 35, n ≤ reachBytes := fun n hn => of_decide_eq_true (List.all_eq_true.1 hsz n (by have hn' : n ∈ d1.weights Tryz.checked.prog 35 := hn; simp [DataW.weightsEach, hn']))
  have hw2 : ∀ n ∈ d2.weights Tryz.prog 9, n ≤ reachBytes := fun n hn => of_decide_eq_true (List.all_eq_true.1 hsz n (by have hn' : n ∈ d2.weights Tryz.checked.prog 9 := hn; simp [DataW.weightsEach, hn']))
  have hw3 : ∀ n ∈ d3.weights Tryz.prog 9, n ≤ reachBytes := fun n hn => of_decide_eq_true (List.all_eq_true.1 hsz n (by have hn' : n ∈ d3.weights Tryz.checked.prog 9 := hn; simp [DataW.weightsEach, hn']))
  have hw4 : ∀ n ∈ d4.weights Tryz.prog 4, n ≤ reachBytes := fun n hn => of_decide_eq_true (List.all_eq_true.1 hsz n (by have hn' : n ∈ d4.weights Tryz.checked.prog 4 := hn; simp [DataW.weightsEach, hn']))
  have k0 := h0
  have lt0 : ∀ x ∈ p0, x.block < W.heap.size := by obtain ⟨m, hm⟩ := k0; exact DataW.trod_lt m _ _ _ hm
  obtain ⟨A0, rfl, _⟩ := okWide_struct Tryz.underlying26 (hval 0 26 v0 rfl rfl)
  obtain ⟨fuel0, hf0⟩ := h0
  obtain ⟨a0, b0⟩ := Kd.open_agg_arg opens_state hf0 hw0
  have k1 := h1
  have lt1 : ∀ x ∈ p1, x.block < W.heap.size := by obtain ⟨m, hm⟩ := k1; exact DataW.trod_lt m _ _ _ hm
  obtain ⟨A1, rfl, _⟩ := okWide_struct Tryz.underlying35 (hval 1 35 v1 rfl rfl)
  obtain ⟨fuel1, hf1⟩ := h1
  obtain ⟨a1, b1⟩ := Kd.open_agg_arg opens_pod hf1 hw1
  have k2 := h2
  have lt2 : ∀ x ∈ p2, x.block < W.heap.size := by obtain ⟨m, hm⟩ := k2; exact DataW.trod_lt m _ _ _ hm
  obtain ⟨a2, rfl, rfl, rfl, _⟩ := open_string Tryz.underlying9 (hval 2 9 v2 rfl rfl) h2
  have b2 : a2.size ≤ 140737488351232 := by have := hw2 a2.data.toList.length (by simp [DataW.weights]); simpa [reachBytes] using this
  have k3 := h3
  have lt3 : ∀ x ∈ p3, x.block < W.heap.size := by obtain ⟨m, hm⟩ := k3; exact DataW.trod_lt m _ _ _ hm
  obtain ⟨a3, rfl, rfl, rfl, _⟩ := open_string Tryz.underlying9 (hval 3 9 v3 rfl rfl) h3
  have b3 : a3.size ≤ 140737488351232 := by have := hw3 a3.data.toList.length (by simp [DataW.weights]); simpa [reachBytes] using this
  have k4 := h4
  have lt4 : ∀ x ∈ p4, x.block < W.heap.size := by obtain ⟨m, hm⟩ := k4; exact DataW.trod_lt m _ _ _ hm
  obtain ⟨a4, rfl, rfl, rfl⟩ := open_bool Tryz.underlying4 (hval 4 4 v4 rfl rfl) h4
  clear hA0 hval0
  refine (ScoreAny_calls _ _ a0 a1 a2 a3 a4 W b0 b1).mono fun e W' ⟨he, bel⟩ => ?_
  subst he
  exact ⟨_, rfl, _, _, _, [], _, [], hW', trodAll_mk1 (shut_bool Tryz.underlying4 _), (trodAll_cons_mk (Below.trod laidOut (by kernel_rfl) (of_decide_eq_true (by kernel_rfl)) k0 bel lt0) (trodAll_cons_mk (Below.trod laidOut (by kernel_rfl) (of_decide_eq_true (by kernel_rfl)) k1 bel lt1) (trodAll_cons_mk (Below.trod laidOut (by kernel_rfl) (of_decide_eq_true (by kernel_rfl)) k2 bel lt2) (trodAll_cons_mk (Below.trod laidOut (by kernel_rfl) (of_decide_eq_true (by kernel_rfl)) k3 bel lt3) (trodAll_cons_mk (Below.trod laidOut (by kernel_rfl) (of_decide_eq_true (by kernel_rfl)) k4 bel lt4) trodAll_mk0))))), rfl, bel.frame _, fun h => by cases h⟩
theorem and_mk {a b : Bool} (h : a = true) (k : b = true) : (a && b) = true := by rw [h, k]; rfl
set_option maxHeartbeats 16000000 in
theorem closed : joinedFacts Tryz.pinned.checked.prog 9 Tryz.f9 Rows.scoreAnySpec Rows.scoreAnyRow = true := by
  unfold joinedFacts
  repeat' (with_reducible refine and_mk ?_ ?_)
  all_goals (as_aux_lemma => kernel_rfl)
theorem over : Rows.scoreAnyRow.holds Tryz.pinned (OpenSpec.ofChange Rows.scoreAnySpec) :=
  OpenClaim.holds_of_wide 9 Tryz.f9 rfl rfl rfl rfl rfl rfl rfl ⟨rfl, rfl, rfl, rfl, rfl⟩ rfl rfl rfl rfl rfl (by as_aux_lemma => kernel_rfl) Tryz.func9 closed
    (of_decide_eq_true (by as_aux_lemma => kernel_rfl)) (by unfold Func.isWrapper; first | (rw [if_pos (by decide +kernel)]; kernel_rfl) | (rw [if_neg (by decide +kernel)]; exact ⟨rfl, rfl⟩))
    (fun os started H enc _ => lifted os started H enc)
end Go.Proofs.YtnmhicgbdalniaaGreatDoor.scoreAny
namespace Go.Proofs.YtnmhicgbdalniaaGreatDoor
theorem scoreAny_holds : Rows.ScoreAnySaid := scoreAny.over
theorem scoreAny_card : Rows.ScoreAnyCardSaid :=
  Claim7.holds_tied_plain_at .later [] [.data, .pinned] true (true, "f472dc2e2d0eba39dbf103d8ae45df6ace63860dc12189e9d910a73f421d4d2f") true
    scoreAny_holds (fun _ h => by cases h) (by as_aux_lemma => kernel_rfl) (fun _ h => by cases h) scoreAny_row_tie rfl ⟨rfl, rfl⟩ (by as_aux_lemma => kernel_rfl) rfl
    (fun f fn hf hfn => by
      obtain rfl : f = 9 := Option.some.inj ((show Tryz.prog.funcNamed "ballast/ballastlaw13.ScoreAny" = some 9 by as_aux_lemma => kernel_rfl).symm.trans hf) |>.symm
      obtain rfl : fn = Tryz.f9 := (Option.some.inj (Tryz.func9.symm.trans hfn)).symm
      exact ⟨by as_aux_lemma => kernel_rfl, fun j t ht => by
        rw [Tryz.params9] at ht
        have hm := Array.mem_of_getElem? ht
        simp at hm
        rcases hm with rfl | rfl | rfl | rfl
        · exact (show Tryz.prog.wantsStandIn 26 = false by as_aux_lemma => kernel_rfl)
        · exact (show Tryz.prog.wantsStandIn 35 = false by as_aux_lemma => kernel_rfl)
        · exact (show Tryz.prog.wantsStandIn 9 = false by as_aux_lemma => kernel_rfl)
        · exact (show Tryz.prog.wantsStandIn 4 = false by as_aux_lemma => kernel_rfl)⟩)
    (by as_aux_lemma => kernel_rfl)
end Go.Proofs.YtnmhicgbdalniaaGreatDoor
