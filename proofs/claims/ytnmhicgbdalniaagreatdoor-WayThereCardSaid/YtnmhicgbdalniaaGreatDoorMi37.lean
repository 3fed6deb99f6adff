import Derived.Test.YtnmhicgbdalniaaGreatDoorMi31
import Derived.Test.YtnmhicgbdalniaaGreatDoorMi33
namespace Go.Proofs.YtnmhicgbdalniaaGreatDoor
open Go.RowKit Go.Sort Go.Lib

/-! sched.Pending. -/
theorem pend_snoc {l : List Pd} {k : Nat} (h : k < l.length) : (l.take (k + 1)).filter pendB = (l.take k).filter pendB ++ (if pendB l[k] = true then [l[k]] else []) := by
  rw [List.take_succ_eq_append_getElem h, List.filter_append]
  congr 1
  cases hp : pendB l[k] <;> simp [hp]
theorem pend_le (l : List Pd) (k : Nat) : ((l.take k).filter pendB).length ≤ k := Nat.le_trans (List.length_filter_le _ _) (by rw [List.length_take]; omega)
theorem pod_ones : ∀ h x cs, Kd.pod.K h x cs → ∀ v ∈ cs, v.oneCell' = true := by
  rintro h x cs ⟨B1, d1, B2, d2, B3, d3, B4, d4, rfl, -⟩ v hv
  simp at hv
  rcases hv with rfl | rfl | rfl | rfl | rfl | rfl | rfl | rfl | rfl | rfl | rfl <;> rfl
theorem eg_compare : ∀ args w, (callFunc 93 args).run Tryz.prog w = .ok (.enter 93 args) w := enters_of Tryz.func93 (by kernel_rfl) rfl
theorem sortPods_calls {w : World} {base : Nat} {ty : TypeId} {v : Value} {xs : List Pd} (ho : Kd.pod.Own w base ty 0 v xs) (hl : xs.length ≤ 1000) :
    Calls Tryz.prog 92 #[v, .func (.func 93) #[] #[]] w fun e w' => e = .returned (.tuple #[]) ∧ ∃ ys, Sorted cmpP xs ys ∧ Kd.pod.S (vw w' []) v ys ∧ Below base w w' :=
  sort_own Tryz.sortPod (d := Kd.pod) Tryz.isAgg35 Tryz.sizeOf35 (by decide) pod_ones cmpP prio_swo 93 eg_compare
    (fun W x y cx cy hx hy => Compare_grow _ _ x y W ⟨cx, rfl, hx⟩ ⟨cy, rfl, hy⟩) ho (by omega)
set_option maxHeartbeats 8000000 in
set_option maxRecDepth 100000 in
theorem Pending_calls (vs : Value) (s : St) (w : World) (hs : Kd.state.V (vw w []) vs s) (hpn : s.pods.length ≤ 1000) (hap : Apart s.pods) :
    Calls Tryz.prog 30 #[vs] w (PodsDone (pendV s) w) := by
  obtain ⟨i0, hi, hz0, hz1, hz2⟩ := info_parts info_pod
  obtain ⟨cs, rfl, hks⟩ := hs
  obtain ⟨A1, c1, A2, c2, A3, c3, rfl, -, s2, -⟩ := hks
  obtain ⟨-, f2, f2'⟩ := s2.form
  have S2 := Lib.hid s2
  have HAP := Lib.hid hap
  clear s2 hap
  go_enter Tryz.func30, Tryz.ntmps30
  go_upto_region 1 with fail
  have hbw := alloc_below w (.cells #[.slice A1 s.nodes.length c1, .slice A2 s.pods.length c2, .slice A3 s.budgets.length c3] 26)
  have hk := blk_last w (.cells #[.slice A1 s.nodes.length c1, .slice A2 s.pods.length c2, .slice A3 s.budgets.length c3] 26)
  generalize w.alloc (.cells #[.slice A1 s.nodes.length c1, .slice A2 s.pods.length c2, .slice A3 s.budgets.length c3] 26) = W at hbw hk ⊢
  obtain ⟨z, zf⟩ := blk_all hk
  have HBW := Lib.hid hbw
  clear hbw hk
  go_wp2
  clear z zf
  go_loopw [3, 9] (fun o i wr => ∃ k : Nat, k ≤ s.pods.length ∧ i = .int .i64 k ∧ Hid (Kd.pod.Own wr w.heap.size 35 0 o ((s.pods.take k).filter pendB)) ∧ Hid (Below w.heap.size w wr)) (fun _ i _ => s.pods.length - (intOf i).toNat)
  case atStart => exact ⟨0, Nat.zero_le _, rfl, Kd.Own.nil _ _ _ _ _, HBW.out⟩
  case round =>
    obtain ⟨k, hk, rfl, HO, HB⟩ := hrel
    by_cases hlt : k < s.pods.length
    · have hsn := pend_snoc hlt
      have hle := pend_le s.pods k
      obtain ⟨b, off, cs, rfl, hn, hc⟩ := S2.out.both HB.out k hlt
      obtain ⟨x, hx⟩ : ∃ x, s.pods[k] = x := ⟨_, rfl⟩
      obtain ⟨out, hout⟩ : ∃ out, (s.pods.take k).filter pendB = out := ⟨_, rfl⟩
      rw [hx] at hn hsn
      rw [hout] at hsn hle HO
      have HKX := Lib.hid hn
      obtain ⟨B1, d1, B2, d2, B3, d3, B4, d4, rfl, -⟩ := hn
      have HC : Hid (wr.rangeAt b (off + k * 11) _) := hc
      have HSN := Lib.hid hsn
      have e1 := empty_beq x.node
      have hon : pendB x = (decide (x.node = ⟨#[]⟩) && !x.hold) := rfl
      obtain ⟨a, ha⟩ : ∃ a, decide (x.node = ⟨#[]⟩) = a := ⟨_, rfl⟩
      obtain ⟨d, hd⟩ : ∃ d, x.hold = d := ⟨_, rfl⟩
      rw [ha] at e1 hon
      rw [hd] at hon HC
      have HON := Lib.hid hon
      clear hc hsn hx hout ha hon
      have HB2 : Hid (Below w.heap.size w (wr.alloc (.cells #[.string x.name, .string x.owner, .int .i64 x.prio, .slice B1 x.need.length d1, .slice B2 x.labels.length d2, .slice B3 x.sel.length d3, .slice B4 x.tols.length d4, .string x.key, .int .i64 x.most, .string x.node, .bool d] 35))) := Below.then HB.out (alloc_below _ _)
      have HO2 := Lib.hid (HO.out.below (alloc_below wr (.cells #[.string x.name, .string x.owner, .int .i64 x.prio, .slice B1 x.need.length d1, .slice B2 x.labels.length d2, .slice B3 x.sel.length d3, .slice B4 x.tols.length d4, .string x.key, .int .i64 x.most, .string x.node, .bool d] 35)))
      have hy := blk_last wr (.cells #[.string x.name, .string x.owner, .int .i64 x.prio, .slice B1 x.need.length d1, .slice B2 x.labels.length d2, .slice B3 x.sel.length d3, .slice B4 x.tols.length d4, .string x.key, .int .i64 x.most, .string x.node, .bool d] 35)
      go_upto_region 5 with (with_reducible refine wpList_load_mid rfl 35 _ rfl b (off + k * 11) rfl _ _ HC.out Tryz.underlying35 rfl (by kernel_rfl) ?_)
      generalize wr.alloc (.cells #[.string x.name, .string x.owner, .int .i64 x.prio, .slice B1 x.need.length d1, .slice B2 x.labels.length d2, .slice B3 x.sel.length d3, .slice B4 x.tols.length d4, .string x.key, .int .i64 x.most, .string x.node, .bool d] 35) = W1 at HB2 HO2 hy ⊢
      obtain ⟨y, yf⟩ := blk_all hy
      have HXH := Lib.hid hd
      clear hy HO HB HC hd
      have hsz := HB2.out.size
      cases a with
      | false =>
        have hn : pendB x = false := by rw [HON.out]; rfl
        have HS : Hid ((s.pods.take (k + 1)).filter pendB = out) := by
          show _ = _
          rw [HSN.out, hn]; simp
        clear hn
        go_wp2
        go_roundw
        case rel => exact ⟨k + 1, by omega, by go_num, by rw [HS.out]; exact HO2.out, HB2.out⟩
        case measure => simp [intOf]; omega
      | true =>
        cases d with
        | true =>
          have hn : pendB x = false := by rw [HON.out]; rfl
          have HS : Hid ((s.pods.take (k + 1)).filter pendB = out) := by
            show _ = _
            rw [HSN.out, hn]; simp
          clear hn
          go_wp2
          go_roundw
          case rel => exact ⟨k + 1, by omega, by go_num, by rw [HS.out]; exact HO2.out, HB2.out⟩
          case measure => simp [intOf]; omega
        | false =>
          have hn : pendB x = true := by rw [HON.out]; rfl
          have HS : Hid ((s.pods.take (k + 1)).filter pendB = out ++ [x]) := by
            show _ = _
            rw [HSN.out, hn]; simp
          clear hn
          rw [HXH.out] at HKX
          have HRO := Lib.hid (own_ge HO2.out)
          go_wp2_with (at_builtin; go_must (refine wpList_own (d := Kd.pod) (x := x) _ w.heap.size 0 23 35 i0 _ 184 Tryz.underlying23 hi hz0 hz1 hz2 rfl (by decide) _ out _ (HO2.out.below (alloc_below _ _)) (Kd.pod.mono (vw_own (Below.then HB2.out (alloc_below _ _)) HRO.out) HKX.out) _ 1 35 (blk_last _ _) (by simp [Value.oneCell']) (by simp only [maxLen]; omega) (by omega) (by simp; omega) _ _ rfl rfl rfl rfl ?_))
          intro v2 w2 ho2 hg2
          have HO3 := Lib.hid ho2
          have HB3 : Hid (Below w.heap.size w w2) := grown_then HB2.out (alloc_below _ _) hg2 HRO.out
          clear ho2 hg2 y yf
          go_wp2
          go_roundw
          case rel => exact ⟨k + 1, by omega, by go_num, by rw [HS.out]; exact HO3.out, HB3.out⟩
          case measure => simp [intOf]; omega
    · obtain rfl : k = s.pods.length := by omega
      have ho := HO.out
      rw [List.take_length] at ho
      have hl := pend_le s.pods s.pods.length
      rw [List.take_length] at hl
      have HO2 := Lib.hid ho
      clear ho HO
      go_wp2_with fail
      refine (sortPods_calls HO2.out (by omega)).mono ?_
      rintro e w2 ⟨rfl, ys, hs, hv, hb⟩
      have hy := pend_one HAP.out hs
      subst hy
      obtain ⟨G, gc, rfl, hS⟩ := hv.val
      have HS := Lib.hid hS
      have HB2 := Lib.hid (HB.out.trans hb)
      clear hS hv hs hb hl
      go_wp2
      go_ret
      exact ⟨G, gc, rfl, HS.out, HB2.out⟩
end Go.Proofs.YtnmhicgbdalniaaGreatDoor
