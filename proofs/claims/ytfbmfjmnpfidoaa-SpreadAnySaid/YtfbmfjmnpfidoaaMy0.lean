/- SpreadAny: the domains of a label, how many of a pod's owner are in one, how far apart it would stand, and who stands too close are as the document tells; for every cluster, pod, key and name. -/
import Derived.Test.YtfbmfjmnpfidoaaRows
import Derived.Test.YtfbmfjmnpfidoaaMy6
import Derived.WalkKit
import Derived.ProofKit
import Derived.OpenShut
import Derived.ShutString
import Derived.ChangeOld
import Derived.Below
import Derived.SizedLaws
namespace Go.Proofs.Ytfbmfjmnpfidoaa.spreadAny
open Go.ChangeShapes Go.WideShapes Go.ChangeAt Go.RowKit
open Go.ChangeMaps (open_string shut_string)
set_option linter.unusedVariables false
theorem own : ownKnob Try.prog.godebug = none := by kernel_rfl
theorem laidOut : laidOutB Try.prog = true := by kernel_rfl
set_option maxRecDepth 100000 in
theorem lifted (os : Os) (started : os.Started) (H : Type) (enc : TypeId × Value → H) :
    ReturnsInHanded {} Try.checked os 3 .any (Rows.spreadAnySpec.pre6 enc Try.prog Try.f3 Rows.spreadAnyRow.domain false) (Rows.spreadAnySpec.post enc Try.prog Try.f3 false true false false) := by
  refine returnsInHanded_of_change_sized (C := Try.checked) own started (by kernel_rfl) Try.func3
    (ChangeSpec.witness6 (enc := enc) (C := Try.checked) false ⟨#[], #[.agg #[.slice none 0 0, .slice none 0 0, .slice none 0 0], .agg #[.string ⟨#[]⟩, .string ⟨#[]⟩, .int .i64 0, .slice none 0 0, .slice none 0 0, .slice none 0 0, .slice none 0 0, .string ⟨#[]⟩, .int .i64 0, .string ⟨#[]⟩, .bool false], .string ⟨#[]⟩, .string ⟨#[]⟩], []⟩ 8 (by kernel_rfl) (by kernel_rfl) (by kernel_rfl) (by kernel_rfl)) ?_
  intro W base args ds gs before hval0 hW hcnd hsz _
  have hval : ∀ (j : Nat) t v, Try.f3.params[j]? = some t → args[j]? = some v → Value.okWide Try.prog W .any base t v := hval0
  have hW' := hW
  obtain ⟨p, q, hA0, hV, rfl, hfz, hnd⟩ := hW
  have hA : DataW.TrodAll enc Try.prog W 0 (fun _ => true) true Try.f3.params.toList args.toList ds p := hA0
  rw [Try.params3] at hA hval hsz
  obtain ⟨v0, vs0, d0, ds0, p0, q0, hargs, rfl, rfl, h0, r0⟩ := trodAll_cons hA
  obtain ⟨v1, vs1, d1, ds1, p1, q1, rfl, rfl, rfl, h1, r1⟩ := trodAll_cons r0
  obtain ⟨v2, vs2, d2, ds2, p2, q2, rfl, rfl, rfl, h2, r2⟩ := trodAll_cons r1
  obtain ⟨v3, vs3, d3, ds3, p3, q3, rfl, rfl, rfl, h3, r3⟩ := trodAll_cons r2
  obtain ⟨rfl, rfl, rfl⟩ := trodAll_nil r3
  obtain rfl : args = #[v0, v1, v2, v3] := by cases args; simp_all
  obtain ⟨rfl, rfl⟩ := trodVars_none hV
  have hw0 : ∀ n ∈ d0.weights Try.prog 26, n ≤ reachBytes := fun n hn => of_decide_eq_true (List.all_eq_true.1 hsz n (by have hn' : n ∈ d0.weights Try.checked.prog 26 := hn; simp [DataW.weightsEach, hn']))
  have hw1 : ∀ n ∈ d1.weights Try.prog 35, n ≤ reachBytes := fun n hn => of_decide_eq_true (List.all_eq_true.1 hsz n (by have hn' : n ∈ d1.weights Try.checked.prog 35 := hn; simp [DataW.weightsEach, hn']))
  have hw2 : ∀ n ∈ d2.weights Try.prog 9, n ≤ reachBytes := fun n hn => of_decide_eq_true (List.all_eq_true.1 hsz n (by have hn' : n ∈ d2.weights Try.checked.prog 9 := hn; simp [DataW.weightsEach, hn']))
  have hw3 : ∀ n ∈ d3.weights Try.prog 9, n ≤ reachBytes := fun n hn => of_decide_eq_true (List.all_eq_true.1 hsz n (by have hn' : n ∈ d3.weights Try.checked.prog 9 := hn; simp [DataW.weightsEach, hn']))
  have k0 := h0
  have lt0 : ∀ x ∈ p0, x.block < W.heap.size := by obtain ⟨m, hm⟩ := k0; exact DataW.trod_lt m _ _ _ hm
  obtain ⟨A0, rfl, _⟩ := okWide_struct Try.underlying26 (hval 0 26 v0 rfl rfl)
  obtain ⟨fuel0, hf0⟩ := h0
  obtain ⟨a0, b0⟩ := Kd.open_agg_arg opens_state hf0 hw0
  have k1 := h1
  have lt1 : ∀ x ∈ p1, x.block < W.heap.size := by obtain ⟨m, hm⟩ := k1; exact DataW.trod_lt m _ _ _ hm
  obtain ⟨A1, rfl, _⟩ := okWide_struct Try.underlying35 (hval 1 35 v1 rfl rfl)
  obtain ⟨fuel1, hf1⟩ := h1
  obtain ⟨a1, b1⟩ := Kd.open_agg_arg opens_pod hf1 hw1
  have k2 := h2
  have lt2 : ∀ x ∈ p2, x.block < W.heap.size := by obtain ⟨m, hm⟩ := k2; exact DataW.trod_lt m _ _ _ hm
  obtain ⟨a2, rfl, rfl, rfl, _⟩ := open_string Try.underlying9 (hval 2 9 v2 rfl rfl) h2
  have b2 : a2.size ≤ 140737488351232 := by have := hw2 a2.data.toList.length (by simp [DataW.weights]); simpa [reachBytes] using this
  have k3 := h3
  have lt3 : ∀ x ∈ p3, x.block < W.heap.size := by obtain ⟨m, hm⟩ := k3; exact DataW.trod_lt m _ _ _ hm
  obtain ⟨a3, rfl, rfl, rfl, _⟩ := open_string Try.underlying9 (hval 3 9 v3 rfl rfl) h3
  have b3 : a3.size ≤ 140737488351232 := by have := hw3 a3.data.toList.length (by simp [DataW.weights]); simpa [reachBytes] using this
  clear hA0 hval0
  refine (SpreadAny_calls (.agg A0) (.agg A1) a0 a1 a2 a3 W b0 b1).mono fun e W' ⟨he, bel⟩ => ?_
  subst he
  exact ⟨_, rfl, _, _, _, [], _, [], hW', trodAll_mk1 (shut_bool Try.underlying4 _), (trodAll_cons_mk (Below.trod laidOut (by kernel_rfl) (of_decide_eq_true (by kernel_rfl)) k0 bel lt0) (trodAll_cons_mk (Below.trod laidOut (by kernel_rfl) (of_decide_eq_true (by kernel_rfl)) k1 bel lt1) (trodAll_cons_mk (Below.trod laidOut (by kernel_rfl) (of_decide_eq_true (by kernel_rfl)) k2 bel lt2) (trodAll_cons_mk (Below.trod laidOut (by kernel_rfl) (of_decide_eq_true (by kernel_rfl)) k3 bel lt3) trodAll_mk0)))), rfl, bel.frame _, fun h => by cases h⟩
theorem over : Rows.spreadAnyRow.holds Try.pinned (OpenSpec.ofChange Rows.spreadAnySpec) :=
  OpenClaim.holds_of_wide 3 Try.f3 rfl rfl rfl rfl rfl rfl rfl ⟨rfl, rfl, rfl, rfl, rfl⟩ rfl rfl rfl rfl rfl (by kernel_rfl) Try.func3 (by kernel_rfl)
    (of_decide_eq_true (by kernel_rfl)) (by unfold Func.isWrapper; first | (rw [if_pos (by decide +kernel)]; kernel_rfl) | (rw [if_neg (by decide +kernel)]; exact ⟨rfl, rfl⟩))
    (fun os started H enc _ => lifted os started H enc)
end Go.Proofs.Ytfbmfjmnpfidoaa.spreadAny
namespace Go.Proofs.Ytfbmfjmnpfidoaa
theorem spreadAny_holds : Rows.SpreadAnySaid := spreadAny.over
end Go.Proofs.Ytfbmfjmnpfidoaa
