/- JournalKeeps: recovered there is a front of what was appended, with all that was synced; with more kept there is no less; fallen and recovered again it is the same; for every list of texts and all numbers that the row admits. -/
import Derived.Test.YthjbhnogndgojaaDoorRows
import Derived.Test.YthjbhnogndgojaaDoorLaid
import Derived.Test.YthjbhnogndgojaaDoorCards
import Derived.Test.YthjbhnogndgojaaDoorTie
import Derived.Test.YthjbhnogndgojaaDoorJournalK
import Derived.WalkKit
import Derived.ProofKit
import Derived.OpenShut
import Derived.ShutString
import Derived.ChangeOld
import Derived.Below
import Derived.SizedLaws
namespace Go.Proofs.YthjbhnogndgojaaDoor.journalKeeps
open Go.ChangeShapes Go.WideShapes Go.ChangeAt Go.RowKit
open Go.ChangeMaps (open_string shut_string)
set_option linter.unusedVariables false
theorem own : ownKnob Tryd.prog.godebug = none := by kernel_rfl
theorem laidOut : laidOutB Tryd.prog = true := by kernel_rfl
theorem opens29 : (Kd.slice (Kd.str)).Opens Tryd.prog 29 := Kd.opens_slice (by kernel_rfl) Tryd.underlying29 (by decide) (of_decide_eq_true (by kernel_rfl)) (Kd.opens_str (by kernel_rfl) Tryd.underlying9)
set_option maxRecDepth 100000 in
theorem lifted (os : Os) (started : os.Started) (H : Type) (enc : TypeId × Value → H) :
    ReturnsInHanded {} Tryd.checked os 8 .any (fun w args => (Rows.journalKeepsSpec.pre enc Tryd.prog Tryd.f8 Rows.journalKeepsRow.domain false w args ∧ laidMetH Tryd.prog laidL w) ∧ sizedMet enc Tryd.prog Tryd.f8 (OpenSpec.ofChange Rows.journalKeepsSpec) false w args) (Rows.journalKeepsSpec.post enc Tryd.prog Tryd.f8 false true false false) := by
  refine returnsInHanded_of_change_and (C := Tryd.checked) (X := fun w _ => laidMetH Tryd.prog laidL w) (fun _ _ _ hh h => h.of_heap hh) own started (by kernel_rfl) Tryd.func8
    (ChangeSpec.witness_at (enc := enc) (C := Tryd.checked) (os := os) (X := fun w _ => laidMetH Tryd.prog laidL w) false (laidWorld os) #[.slice none 0 0, .int .u8 0, .int .u16 0, .int .u16 0] 8 rfl (by kernel_rfl) (by kernel_rfl) (by kernel_rfl) (by kernel_rfl) (by kernel_rfl) (laid_met os _)) ?_
  intro W base args ds gs before hval0 hW hcnd hsz hL _
  have hT := tab_of_laid hL
  have hval : ∀ (j : Nat) t v, Tryd.f8.params[j]? = some t → args[j]? = some v → Value.okWide Tryd.prog W .any base t v := hval0
  have hW' := hW
  obtain ⟨p, q, hA0, hV, rfl, hfz, hnd⟩ := hW
  have hA : DataW.TrodAll enc Tryd.prog W 0 (fun _ => true) true Tryd.f8.params.toList args.toList ds p := hA0
  rw [Tryd.params8] at hA hval hsz
  obtain ⟨v0, vs0, d0, ds0, p0, q0, hargs, rfl, rfl, h0, r0⟩ := trodAll_cons hA
  obtain ⟨v1, vs1, d1, ds1, p1, q1, rfl, rfl, rfl, h1, r1⟩ := trodAll_cons r0
  obtain ⟨v2, vs2, d2, ds2, p2, q2, rfl, rfl, rfl, h2, r2⟩ := trodAll_cons r1
  obtain ⟨v3, vs3, d3, ds3, p3, q3, rfl, rfl, rfl, h3, r3⟩ := trodAll_cons r2
  obtain ⟨rfl, rfl, rfl⟩ := trodAll_nil r3
  obtain rfl : args = #[v0, v1, v2, v3] := by cases args; simp_all
  obtain ⟨rfl, rfl⟩ := trodVars_none hV
  have hw0 : ∀ n ∈ d0.weights Tryd.prog 29, n ≤ reachBytes := fun n hn => of_decide_eq_true (List.all_eq_true.1 hsz n (by have hn' : n ∈ d0.weights Tryd.checked.prog 29 := hn; simp [DataW.weightsEach, hn']))
  have hw1 : ∀ n ∈ d1.weights Tryd.prog 5, n ≤ reachBytes := fun n hn => of_decide_eq_true (List.all_eq_true.1 hsz n (by have hn' : n ∈ d1.weights Tryd.checked.prog 5 := hn; simp [DataW.weightsEach, hn']))
  have hw2 : ∀ n ∈ d2.weights Tryd.prog 38, n ≤ reachBytes := fun n hn => of_decide_eq_true (List.all_eq_true.1 hsz n (by have hn' : n ∈ d2.weights Tryd.checked.prog 38 := hn; simp [DataW.weightsEach, hn']))
  have hw3 : ∀ n ∈ d3.weights Tryd.prog 38, n ≤ reachBytes := fun n hn => of_decide_eq_true (List.all_eq_true.1 hsz n (by have hn' : n ∈ d3.weights Tryd.checked.prog 38 := hn; simp [DataW.weightsEach, hn']))
  have k0 := h0
  have lt0 : ∀ x ∈ p0, x.block < W.heap.size := by obtain ⟨m, hm⟩ := k0; exact DataW.trod_lt m _ _ _ hm
  obtain ⟨A0, n0, c0, rfl⟩ := okWide_slice Tryd.underlying29 (hval 0 29 v0 rfl rfl)
  obtain ⟨fuel0, hf0⟩ := h0
  obtain ⟨a0, b0⟩ := Kd.open_slice_arg opens29 hf0 hw0
  have k1 := h1
  have lt1 : ∀ x ∈ p1, x.block < W.heap.size := by obtain ⟨m, hm⟩ := k1; exact DataW.trod_lt m _ _ _ hm
  obtain ⟨a1, e1, rfl, rfl, w1⟩ := open_int Tryd.underlying5 (hval 1 5 v1 rfl rfl) h1
  subst e1
  have b1 := bounds_u8 w1
  have k2 := h2
  have lt2 : ∀ x ∈ p2, x.block < W.heap.size := by obtain ⟨m, hm⟩ := k2; exact DataW.trod_lt m _ _ _ hm
  obtain ⟨a2, e2, rfl, rfl, w2⟩ := open_int Tryd.underlying38 (hval 2 38 v2 rfl rfl) h2
  subst e2
  have b2 := bounds_u16 w2
  have k3 := h3
  have lt3 : ∀ x ∈ p3, x.block < W.heap.size := by obtain ⟨m, hm⟩ := k3; exact DataW.trod_lt m _ _ _ hm
  obtain ⟨a3, e3, rfl, rfl, w3⟩ := open_int Tryd.underlying38 (hval 3 38 v3 rfl rfl) h3
  subst e3
  have b3 := bounds_u16 w3
  clear hA0 hval0
  refine (JournalKeeps_calls _ a0 a1 a2 a3 b1.1 b1.2 b2.1 b2.2 b3.1 b3.2 W b0 hT).mono fun e W' ⟨he, bel⟩ => ?_
  subst he
  exact ⟨_, rfl, _, _, _, [], _, [], hW', trodAll_mk1 (shut_bool Tryd.underlying4 _), (trodAll_cons_mk (Below.trod laidOut (by kernel_rfl) (of_decide_eq_true (by kernel_rfl)) k0 bel lt0) (trodAll_cons_mk (Below.trod laidOut (by kernel_rfl) (of_decide_eq_true (by kernel_rfl)) k1 bel lt1) (trodAll_cons_mk (Below.trod laidOut (by kernel_rfl) (of_decide_eq_true (by kernel_rfl)) k2 bel lt2) (trodAll_cons_mk (Below.trod laidOut (by kernel_rfl) (of_decide_eq_true (by kernel_rfl)) k3 bel lt3) trodAll_mk0)))), rfl, bel.frame _, fun h => by cases h⟩
theorem over : Rows.journalKeepsRow.holds Tryd.pinned (OpenSpec.ofChange Rows.journalKeepsSpec) :=
  OpenClaim.holds_of_wide 8 Tryd.f8 rfl rfl rfl rfl rfl rfl rfl ⟨rfl, rfl, rfl, rfl, rfl⟩ rfl rfl rfl rfl rfl (by kernel_rfl) Tryd.func8 (by kernel_rfl)
    (of_decide_eq_true (by kernel_rfl)) (by unfold Func.isWrapper; first | (rw [if_pos (by decide +kernel)]; kernel_rfl) | (rw [if_neg (by decide +kernel)]; exact ⟨rfl, rfl⟩))
    (fun os started H enc _ => lifted os started H enc)
end Go.Proofs.YthjbhnogndgojaaDoor.journalKeeps
namespace Go.Proofs.YthjbhnogndgojaaDoor
theorem journalKeeps_holds : Rows.JournalKeepsSaid := journalKeeps.over
theorem journalKeeps_card : Rows.JournalKeepsCardSaid :=
  Claim7.holds_tied_plain_at .later [] [.data, .data, .data] true (true, "3b7e8cb3fe6d60b30f662d8a7d2d5f3ad3ea599bef0618c91eea77bf8a81f53f") true
    journalKeeps_holds (fun _ h => by cases h) (by kernel_rfl) (fun _ h => by cases h) journalKeeps_row_tie rfl ⟨rfl, rfl⟩ (by kernel_rfl) rfl
    (fun f fn hf hfn => by
      obtain rfl : f = 8 := Option.some.inj ((show Tryd.prog.funcNamed "ballast/ballastlaw24.JournalKeeps" = some 8 by kernel_rfl).symm.trans hf) |>.symm
      obtain rfl : fn = Tryd.f8 := (Option.some.inj (Tryd.func8.symm.trans hfn)).symm
      exact ⟨by kernel_rfl, fun j t ht => by
        rw [Tryd.params8] at ht
        have hm := Array.mem_of_getElem? ht
        simp at hm
        rcases hm with rfl | rfl | rfl
        · exact (show Tryd.prog.wantsStandIn 29 = false by kernel_rfl)
        · exact (show Tryd.prog.wantsStandIn 5 = false by kernel_rfl)
        · exact (show Tryd.prog.wantsStandIn 38 = false by kernel_rfl)⟩)
    (by kernel_rfl)
end Go.Proofs.YthjbhnogndgojaaDoor
