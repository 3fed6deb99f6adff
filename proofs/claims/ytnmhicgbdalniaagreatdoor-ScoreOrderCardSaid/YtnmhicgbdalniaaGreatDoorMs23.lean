import Derived.Test.YtnmhicgbdalniaaGreatDoorMs8
import Derived.Test.YtnmhicgbdalniaaGreatDoorMs14
import Derived.Test.YtnmhicgbdalniaaGreatDoorMs15
import Derived.Test.YtnmhicgbdalniaaGreatDoorMs22
import Derived.IntWalk
import Derived.Deep.RegionHeld3
import Derived.Deep.DeepCutAuto
import Derived.Deep.CutBlock
import Derived.RegionDies
namespace Go.Proofs.YtnmhicgbdalniaaGreatDoor
open Go.RowKit

/-! How much closer a pod would stand than it might. -/
def leastV (s : St) (p : Pd) (own : ByteArray) (here : Nat) (l : List (List UInt8)) : Nat := l.foldl (fun a d => if ba d = own then a else min a (countV s p (ba d) s.pods)) here
theorem leastV_snoc (s : St) (p : Pd) (own : ByteArray) (here : Nat) {l : List (List UInt8)} {k : Nat} (h : k < l.length) :
    leastV s p own here (l.take (k + 1)) = if ba l[k] = own then leastV s p own here (l.take k) else min (leastV s p own here (l.take k)) (countV s p (ba l[k]) s.pods) := by
  unfold leastV
  rw [List.take_succ_eq_append_getElem h, List.foldl_append]; rfl
theorem leastV_le (s : St) (p : Pd) (own : ByteArray) (here : Nat) : ∀ l : List (List UInt8), leastV s p own here l ≤ here := fun l => by
  have key : ∀ (l : List (List UInt8)) (a : Nat), l.foldl (fun a d => if ba d = own then a else min a (countV s p (ba d) s.pods)) a ≤ a := by
    intro l
    induction l with
    | nil => exact fun a => Nat.le_refl _
    | cons d r ih =>
      intro a
      rw [List.foldl_cons]
      refine Nat.le_trans (ih _) ?_
      split
      · exact Nat.le_refl _
      · exact Nat.min_le_left _ _
  exact key l here
def hereV (s : St) (p : Pd) (own : ByteArray) : Nat := countV s p own s.pods + 1
def skewV (s : St) (p : Pd) (name : ByteArray) : Int × Bool :=
  if p.key = ⟨#[]⟩ then (0, true)
  else if (domV s name p.key).2 then ((hereV s p (domV s name p.key).1 : Int) - leastV s p (domV s name p.key).1 (hereV s p (domV s name p.key).1) (domsV s.nodes p.key), true)
  else (0, false)
def SkewDone (s : St) (p : Pd) (name : ByteArray) (w : World) (e : Ending) (w' : World) : Prop := e = .returned (.tuple #[.int .i64 (skewV s p name).1, .bool (skewV s p name).2]) ∧ Below w.heap.size w w'
end Go.Proofs.YtnmhicgbdalniaaGreatDoor
namespace Go.Proofs.YtnmhicgbdalniaaGreatDoor
open Go.RowKit

/-! What Check tells, in plain words; the sums over domains. -/
theorem orV_zero {a b : Int} (h : orV a b = 0) : a = 0 ∧ b = 0 := by
  unfold orV at h
  by_cases k : a ≠ 0
  · rw [if_pos k] at h; exact absurd h k
  · rw [if_neg k] at h; exact ⟨Decidable.not_not.1 k, h⟩
theorem manyV_zero {α : Type} {lim : Nat} {l : List α} {n : Int} (h : manyV lim l n = 0) : l.length ≤ lim ∧ n = 0 := by
  unfold manyV at h
  split at h
  · cases h
  · exact ⟨by omega, h⟩
theorem ltS_trans {a b c : ByteArray} (h : ltS a b = true) (k : ltS b c = true) : ltS a c = true := by
  unfold ltS at *
  simp only [decide_eq_true_eq] at *
  exact Std.lt_of_lt_of_le h (Std.le_of_lt k)
theorem ltS_ne {a b : ByteArray} (h : ltS a b = true) : a ≠ b := by
  rintro rfl
  unfold ltS at h
  simp only [decide_eq_true_eq] at h
  exact Std.lt_irrefl h
theorem rowsV_zero {α : Type} {f : α → Int} {nm : α → ByteArray} : ∀ {l : List α} {p : Option ByteArray}, rowsV f nm p l = 0 →
    (∀ x ∈ l, f x = 0) ∧ l.Pairwise (fun a b => ltS (nm a) (nm b) = true) ∧ ∀ q, p = some q → ∀ x ∈ l, ltS q (nm x) = true
  | [], _, _ => ⟨fun _ h => (by cases h), List.Pairwise.nil, fun _ _ _ h => (by cases h)⟩
  | x :: r, p, h => by
    unfold rowsV at h
    obtain ⟨h1, h2⟩ := orV_zero h
    split at h2
    · cases h2
    · rename_i hl
      obtain ⟨i1, i2, i3⟩ := rowsV_zero h2
      have hx := i3 (nm x) rfl
      refine ⟨fun y hy => ?_, List.pairwise_cons.2 ⟨hx, i2⟩, fun q hq y hy => ?_⟩
      · rcases List.mem_cons.1 hy with rfl | hy
        · exact h1
        · exact i1 y hy
      · subst hq
        have h3 : ltS q (nm x) = true := by
          cases hc : ltS q (nm x) with
          | true => rfl
          | false => exact absurd (show (!ltS q (nm x)) = true by rw [hc]; rfl) hl
        rcases List.mem_cons.1 hy with rfl | hy
        · exact h3
        · exact ltS_trans h3 (hx y hy)
theorem check_parts {s : St} (h : checkSt s = 0) : checkNodes s.nodes = 0 ∧ checkPods s.pods = 0 := by
  unfold checkSt at h
  obtain ⟨h1, h⟩ := orV_zero h
  exact ⟨h1, (orV_zero h).1⟩
theorem findV_mem : ∀ {l : List Nd} {k : ByteArray}, (findV l k).2 = true → (findV l k).1 ∈ l
  | n :: r, k, h => by
    unfold findV at *
    by_cases e : n.name = k
    · rw [if_pos e]; exact List.mem_cons_self ..
    · rw [if_neg e] at h ⊢; exact List.mem_cons_of_mem _ (findV_mem h)
end Go.Proofs.YtnmhicgbdalniaaGreatDoor
namespace Go.Proofs.YtnmhicgbdalniaaGreatDoor
open Go.RowKit Go.Sort

theorem ret_ib {a : Int} {b : Bool} {r : Int × Bool} (h : r = (a, b)) : Ending.returned (.tuple #[.int .i64 a, .bool b]) = .returned (.tuple #[.int .i64 r.1, .bool r.2]) := by rw [h]
theorem V_below {α : Type} {d : Kd α} {w w' : World} {v : Value} {x : α} (h : d.V (vw w []) v x) (hb : Below w.heap.size w w') : d.V (vw w' []) v x := by
  obtain ⟨cs, h1, h2⟩ := h
  exact ⟨cs, h1, d.mono (vw_below hb) h2⟩
set_option maxHeartbeats 4000000 in
set_option maxRecDepth 100000 in
theorem rSkew_calls (vs vp : Value) (s : St) (p : Pd) (name : ByteArray) (w : World) (hs : Kd.state.V (vw w []) vs s) (hp : Kd.pod.V (vw w []) vp p) (hn : s.nodes.length ≤ 1000) (hpn : s.pods.length ≤ 1000) :
    Calls Tryz.prog 142 #[vs, vp, .string name] w (SkewDone s p name w) := by
  obtain ⟨cs, rfl, hks⟩ := hs
  obtain ⟨cp, rfl, hkp⟩ := hp
  have hvs : Kd.state.V (vw w []) (.agg cs.toArray) s := ⟨cs, rfl, hks⟩
  have hvp : Kd.pod.V (vw w []) (.agg cp.toArray) p := ⟨cp, rfl, hkp⟩
  obtain ⟨A1, c1, A2, c2, A3, c3, rfl, s1, -, -⟩ := hks
  obtain ⟨P1, p1, P2, p2, P3, p3, P4, p4, rfl, -⟩ := hkp
  have HVS : Hid (Kd.state.V (vw w []) (.agg #[.slice A1 s.nodes.length c1, .slice A2 s.pods.length c2, .slice A3 s.budgets.length c3]) s) := hvs
  have HVP : Hid (Kd.pod.V (vw w []) (.agg #[.string p.name, .string p.owner, .int .i64 p.prio, .slice P1 p.need.length p1, .slice P2 p.labels.length p2, .slice P3 p.sel.length p3, .slice P4 p.tols.length p4, .string p.key, .int .i64 p.most, .string p.node, .bool p.hold]) p) := hvp
  have S1 := Lib.hid s1
  clear s1 hvs hvp
  go_enter Tryz.func142, Tryz.ntmps142
  go_upto_region 1 with fail
  obtain ⟨W, hW⟩ : ∃ W : World, W = ((w.alloc (.cells #[.slice A1 s.nodes.length c1, .slice A2 s.pods.length c2, .slice A3 s.budgets.length c3] 51)).alloc (.cells #[.string p.name, .string p.owner, .int .i64 p.prio, .slice P1 p.need.length p1, .slice P2 p.labels.length p2, .slice P3 p.sel.length p3, .slice P4 p.tols.length p4, .string p.key, .int .i64 p.most, .string p.node, .bool p.hold] 45)) := ⟨_, rfl⟩
  rw [← hW]
  have hbw : Below w.heap.size w W := by rw [hW]; exact Below.then (alloc_below _ _) (alloc_below _ _)
  have k1 : W.heap[w.heap.size]? = some (.cells #[.slice A1 s.nodes.length c1, .slice A2 s.pods.length c2, .slice A3 s.budgets.length c3] 51 (0, 0)) := by
    rw [hW]; exact (blk_old _ _ (by simp)).trans (blk_last _ _)
  have k2 : W.heap[w.heap.size + 1]? = some (.cells #[.string p.name, .string p.owner, .int .i64 p.prio, .slice P1 p.need.length p1, .slice P2 p.labels.length p2, .slice P3 p.sel.length p3, .slice P4 p.tols.length p4, .string p.key, .int .i64 p.most, .string p.node, .bool p.hold] 45 (0, 0)) := by
    rw [hW]
    have := blk_last (w.alloc (.cells #[.slice A1 s.nodes.length c1, .slice A2 s.pods.length c2, .slice A3 s.budgets.length c3] 51)) (.cells #[.string p.name, .string p.owner, .int .i64 p.prio, .slice P1 p.need.length p1, .slice P2 p.labels.length p2, .slice P3 p.sel.length p3, .slice P4 p.tols.length p4, .string p.key, .int .i64 p.most, .string p.node, .bool p.hold] 45)
    simpa using this
  have HK0 := Lib.hid (And.intro k1 k2)
  have HBW := Lib.hid hbw
  obtain ⟨z, zf⟩ := blk_all k1
  obtain ⟨y, yf⟩ := blk_all k2
  have l1 := blk_lt k1
  have l2 := blk_lt k2
  clear hbw k1 k2 hW
  have e1 := empty_beq p.key
  by_cases ha : p.key = ⟨#[]⟩
  · have hz : skewV s p name = (0, true) := by unfold skewV; rw [if_pos ha]
    rw [decide_eq_true ha] at e1
    have HZ := Lib.hid hz
    clear hz ha
    go_wp2
    go_ret2
    exact ⟨ret_ib HZ.out, HBW.out⟩
  have hz : skewV s p name = if (domV s name p.key).2 then ((hereV s p (domV s name p.key).1 : Int) - leastV s p (domV s name p.key).1 (hereV s p (domV s name p.key).1) (domsV s.nodes p.key), true) else (0, false) := by unfold skewV; rw [if_neg ha]
  rw [decide_eq_false ha] at e1
  obtain ⟨d, ok, hd⟩ : ∃ d ok, domV s name p.key = (d, ok) := ⟨_, _, rfl⟩
  rw [hd] at hz
  have HZ := Lib.hid hz
  have HD := Lib.hid hd
  clear ha hz hd
  have HS1 : Hid (Kd.node.S (vw W []) (.slice A1 s.nodes.length c1) s.nodes) := S1.out.mono (vw_below HBW.out)
  go_wp2_with fail
  refine (FindNode_calls _ s.nodes name _ HS1.out).mono ?_
  rintro e w1 ⟨cs, rfl, hk1, hb⟩
  obtain ⟨D1, g1, D2, g2, D3, g3, rfl, -, -, t2, -⟩ := hk1
  have T2 := Lib.hid t2
  have HB3 := Lib.hid hb
  have u1 := (hb.block _ l1).trans HK0.out.1
  have u2 := (hb.block _ l2).trans HK0.out.2
  clear z zf y yf
  obtain ⟨z, zf⟩ := blk_all u1
  obtain ⟨y, yf⟩ := blk_all u2
  have l1' := blk_lt u1
  have l2' := blk_lt u2
  have HU1 := Lib.hid (And.intro u1 u2)
  clear hb t2 u1 u2
  go_wp2_with fail
  refine (Label_calls _ (findV s.nodes name).1.labels p.key _ (T2.out.mono (vw_alloc _))).mono ?_
  unfold GetSame
  rw [show getV (findV s.nodes name).1.labels p.key = (d, ok) from HD.out]
  rintro e w2 ⟨rfl, rfl⟩
  simp only
  have hokk : (findV s.nodes name).2 = false → ok = false := fun h => by
    have h1 : (findV s.nodes name).1 = zNd := find_none h
    have h2 : getV (findV s.nodes name).1.labels p.key = (d, ok) := HD.out
    rw [h1] at h2
    have h3 : getV zNd.labels p.key = (⟨#[]⟩, false) := rfl
    rw [h3] at h2
    injection h2 with _ h2
    exact h2.symm
  obtain ⟨fk, hfk⟩ : ∃ fk, (findV s.nodes name).2 = fk := ⟨_, rfl⟩
  rw [hfk] at hokk ⊢
  clear hfk
  have HB4 := Lib.hid (Below.then HBW.out (Below.then HB3.out (alloc_below w1 (.cells #[.string (findV s.nodes name).1.name, .slice D1 (findV s.nodes name).1.cap.length g1, .slice D2 (findV s.nodes name).1.labels.length g2, .slice D3 (findV s.nodes name).1.taints.length g3, .bool (findV s.nodes name).1.cordon] 150))))
  cases ok with
  | false =>
    have hz2 : skewV s p name = (0, false) := HZ.out
    have HZ2 := Lib.hid hz2
    clear hz2 hokk
    cases fk with
    | false =>
      go_wp2
      go_ret2
      exact ⟨ret_ib HZ2.out, HB4.out⟩
    | true =>
      go_wp2
      go_ret2
      exact ⟨ret_ib HZ2.out, HB4.out⟩
  | true =>
    cases fk with
    | false => exact absurd (hokk rfl) (by simp)
    | true =>
      clear hokk
      have hz2 : skewV s p name = ((hereV s p d : Int) - leastV s p d (hereV s p d) (domsV s.nodes p.key), true) := HZ.out
      have HZ2 := Lib.hid hz2
      clear hz2
      have hue := alloc_below w1 (.cells #[.string (findV s.nodes name).1.name, .slice D1 (findV s.nodes name).1.cap.length g1, .slice D2 (findV s.nodes name).1.labels.length g2, .slice D3 (findV s.nodes name).1.taints.length g3, .bool (findV s.nodes name).1.cordon] 150)
      have v1 := (hue.block _ l1').trans HU1.out.1
      have v2 := (hue.block _ l2').trans HU1.out.2
      generalize hU : w1.alloc (.cells #[.string (findV s.nodes name).1.name, .slice D1 (findV s.nodes name).1.cap.length g1, .slice D2 (findV s.nodes name).1.labels.length g2, .slice D3 (findV s.nodes name).1.taints.length g3, .bool (findV s.nodes name).1.cordon] 150) = U at HB4 v1 v2 ⊢
      clear z zf y yf hue hU
      obtain ⟨z, zf⟩ := blk_all v1
      obtain ⟨y, yf⟩ := blk_all v2
      have HUU := Lib.hid (And.intro v1 v2)
      clear v1 v2
      have z0 : U.cell? ⟨w.heap.size, 0, none⟩ = some (.slice A1 s.nodes.length c1) := z 0
      have z1 : U.cell? ⟨w.heap.size, 1, none⟩ = some (.slice A2 s.pods.length c2) := z 1
      have z2 : U.cell? ⟨w.heap.size, 2, none⟩ = some (.slice A3 s.budgets.length c3) := z 2
      clear z
      go_wp2_with fail
      refine (rCount_calls _ _ s p d _ (V_below HVS.out HB4.out) (V_below HVP.out HB4.out)).mono ?_
      rintro e w3 ⟨rfl, hb3⟩
      have HB5 := Lib.hid (Below.then HB4.out hb3)
      have v1 := (hb3.block _ (blk_lt HUU.out.1)).trans HUU.out.1
      have v2 := (hb3.block _ (blk_lt HUU.out.2)).trans HUU.out.2
      have HUV := Lib.hid (And.intro v1 v2)
      clear z0 z1 z2 y yf zf hb3
      obtain ⟨z, zf⟩ := blk_all v1
      obtain ⟨y, yf⟩ := blk_all v2
      clear v1 v2
      have hcl := countV_le s p d s.pods
      go_wp2_with fail
      refine (rDomains_calls _ s p.key _ (V_below HVS.out HB5.out) hn).mono ?_
      rintro e w4 ⟨sv, rfl, ho, hb4⟩
      have HB6 := Lib.hid (Below.then HB5.out hb4)
      have v1 := (hb4.block _ (blk_lt HUV.out.1)).trans HUV.out.1
      have v2 := (hb4.block _ (blk_lt HUV.out.2)).trans HUV.out.2
      have HUW := Lib.hid (And.intro v1 v2)
      clear z zf y yf hb4 v1 v2
      have HO := Lib.hid ho
      clear ho
      have hdl := domsV_len s.nodes p.key
      have hpk := countV_le s p d s.pods
      have hle0 : ∀ k, leastV s p d (hereV s p d) ((domsV s.nodes p.key).take k) ≤ hereV s p d := fun k => leastV_le s p d _ _
      obtain ⟨l, hl⟩ : ∃ l, domsV s.nodes p.key = l := ⟨_, rfl⟩
      rw [hl] at hdl hle0 HZ2 HO
      have HLE := Lib.hid hle0
      clear hl hle0
      rcases own_view HO.out with ⟨rfl, rfl⟩ | ⟨g, c, rfl, hbg, hgl, hncap, hcm, hH⟩
      · go_wp2
        go_loop [13, 15] (fun m i => i = .int .i64 0 ∧ m = .int .i64 (hereV s p d : Nat)) (fun _ _ => 0)
        case atStart => exact ⟨rfl, by simp [hereV]⟩
        case round =>
          obtain ⟨rfl, rfl⟩ := hrel
          have hh : hereV s p d = countV s p d s.pods + 1 := rfl
          have HX : Hid (skewV s p name = (wrap64 ((countV s p d s.pods : Int) + 1 - (hereV s p d : Nat)), true)) := by
            show _ = _
            rw [HZ2.out, IntWalk.wrap64_in _ (by omega), hh]
            push_cast
            rfl
          clear hh
          go_wp2
          go_ret2
          exact ⟨ret_ib HX.out, HB6.out⟩
      · have HH := Lib.hid hH
        have b5 : l.length ≤ c := hncap
        clear hH hbg hncap hcm
        have l3 := blk_lt HUW.out.1
        have l4 := blk_lt HUW.out.2
        go_wp2
        go_loopw [13, 15] (fun m i wr => ∃ k : Nat, k ≤ l.length ∧ i = .int .i64 k ∧ m = .int .i64 (leastV s p d (hereV s p d) (l.take k) : Nat) ∧ Hid (Below w4.heap.size w4 wr)) (fun _ i _ => l.length - (intOf i).toNat)
        case atStart => exact ⟨0, Nat.zero_le _, rfl, by simp [hereV, leastV], Below.refl _ _⟩
        case round =>
          obtain ⟨k, hk, rfl, rfl, HB⟩ := hrel
          by_cases hlt : k < l.length
          · have q1 := (HB.out.block _ l3).trans HUW.out.1
            have q2 := (HB.out.block _ l4).trans HUW.out.2
            obtain ⟨z, zf⟩ := blk_all q1
            obtain ⟨y, yf⟩ := blk_all q2
            have r1 := blk_lt q1
            have r2 := blk_lt q2
            have r3 : g < wr.heap.size := Nat.lt_of_lt_of_le hgl HB.out.size
            have c0 : wr.cell? ⟨g, k, none⟩ = some (.string (ba l[k])) := (HB.out.cell (p := ⟨g, k, none⟩) hgl).trans (HH.out k hlt)
            have HBD : Hid (Below w4.heap.size w4 wr.drew) := Below.then HB.out (drewN_below wr 1)
            have HV1 : Hid (Kd.state.V (vw wr.drew []) (.agg #[.slice A1 s.nodes.length c1, .slice A2 s.pods.length c2, .slice A3 s.budgets.length c3]) s) := V_below HVS.out (Below.then HB6.out HBD.out)
            have HV2 : Hid (Kd.pod.V (vw wr.drew []) (.agg #[.string p.name, .string p.owner, .int .i64 p.prio, .slice P1 p.need.length p1, .slice P2 p.labels.length p2, .slice P3 p.sel.length p3, .slice P4 p.tols.length p4, .string p.key, .int .i64 p.most, .string p.node, .bool p.hold]) p) := V_below HVP.out (Below.then HB6.out HBD.out)
            have b1 : (0 : Int) ≤ (k : Int) := by omega
            have b2 : (k : Int) < (l.length : Int) := by omega
            clear q1 q2
            go_wp2_with fail
            go_region_held3 (fun w' => (∀ j, w'.cell? ⟨w.heap.size, j, none⟩ = (#[.slice A1 s.nodes.length c1, .slice A2 s.pods.length c2, .slice A3 s.budgets.length c3] : Array Value)[j]?) ∧ (∀ j, w'.cell? ⟨w.heap.size + 1, j, none⟩ = (#[.string p.name, .string p.owner, .int .i64 p.prio, .slice P1 p.need.length p1, .slice P2 p.labels.length p2, .slice P3 p.sel.length p3, .slice P4 p.tols.length p4, .string p.key, .int .i64 p.most, .string p.node, .bool p.hold] : Array Value)[j]?) ∧ w'.cell? ⟨g, k, none⟩ = some (.string (ba l[k]))) (first | go_keep | exact ⟨f0, f1, f2⟩ | exact ⟨z, y, c0⟩)
              (first | (go_at_call 219; refine (rCount_calls _ _ s p (ba l[k]) _ (by exact HV1.out) (by exact HV2.out)).mono ?_; rintro e w5 ⟨rfl, hb5⟩; have f0 : ∀ j, w5.cell? ⟨w.heap.size, j, none⟩ = (#[.slice A1 s.nodes.length c1, .slice A2 s.pods.length c2, .slice A3 s.budgets.length c3] : Array Value)[j]? := (fun j => (hb5.cell (p := ⟨w.heap.size, j, none⟩) r1).trans (z j)); have f1 : ∀ j, w5.cell? ⟨w.heap.size + 1, j, none⟩ = (#[.string p.name, .string p.owner, .int .i64 p.prio, .slice P1 p.need.length p1, .slice P2 p.labels.length p2, .slice P3 p.sel.length p3, .slice P4 p.tols.length p4, .string p.key, .int .i64 p.most, .string p.node, .bool p.hold] : Array Value)[j]? := (fun j => (hb5.cell (p := ⟨w.heap.size + 1, j, none⟩) r2).trans (y j)); have f2 : w5.cell? ⟨g, k, none⟩ = some (.string (ba l[k])) := (hb5.cell (p := ⟨g, k, none⟩) r3).trans c0; have HB7 : Hid (Below w4.heap.size w4 w5) := Below.then HBD.out hb5; clear hb5))
            all_goals
              have hsn := leastV_snoc s p d (hereV s p d) hlt
              have hm := HLE.out k
              have hcl2 := countV_le s p (ba l[k]) s.pods
              have hh : hereV s p d = countV s p d s.pods + 1 := rfl
              have e6 : (!(ba l[k]).toList == d.toList) = !decide (ba l[k] = d) := by
                by_cases h : ba l[k] = d
                · rw [str_beq h, decide_eq_true h]
                · rw [str_nbeq h, decide_eq_false h]
              by_cases hdk : ba l[k] = d
              · rw [decide_eq_true hdk] at e6
                rw [if_pos hdk] at hsn
                have HSN := Lib.hid hsn
                clear hsn hdk
                go_wp2
                go_roundw
                case rel => exact ⟨k + 1, by omega, by go_num, by rw [HSN.out], HB7.out⟩
                case measure => simp [intOf]; omega
              · rw [decide_eq_false hdk] at e6
                rw [if_neg hdk] at hsn
                by_cases hmn : countV s p (ba l[k]) s.pods < leastV s p d (hereV s p d) (l.take k)
                · rw [Nat.min_eq_right (Nat.le_of_lt hmn)] at hsn
                  have HSN := Lib.hid hsn
                  have hmb : decide (countV s p (ba l[k]) s.pods < leastV s p d (hereV s p d) (l.take k)) = true := decide_eq_true hmn
                  clear hsn hdk
                  go_wp2
                  go_roundw
                  case rel => exact ⟨k + 1, by omega, by go_num, by rw [HSN.out], HB7.out⟩
                  case measure => simp [intOf]; omega
                · rw [Nat.min_eq_left (Nat.le_of_not_lt hmn)] at hsn
                  have HSN := Lib.hid hsn
                  have hmb : decide (countV s p (ba l[k]) s.pods < leastV s p d (hereV s p d) (l.take k)) = false := decide_eq_false hmn
                  clear hsn hdk
                  go_wp2
                  go_roundw
                  case rel => exact ⟨k + 1, by omega, by go_num, by rw [HSN.out], HB7.out⟩
                  case measure => simp [intOf]; omega
          · obtain rfl : k = l.length := by omega
            have hm := HLE.out l.length
            have hh : hereV s p d = countV s p d s.pods + 1 := rfl
            have HX : Hid (skewV s p name = (wrap64 ((countV s p d s.pods : Int) + 1 - (leastV s p d (hereV s p d) l : Nat)), true)) := by
              rw [List.take_length] at hm
              show _ = _
              rw [HZ2.out, IntWalk.wrap64_in _ (by omega), hh]
              push_cast
              rfl
            clear hh hm
            have HB8 := Lib.hid (Below.then HB6.out HB.out)
            go_wp2
            go_ret2
            exact ⟨ret_ib HX.out, HB8.out⟩
end Go.Proofs.YtnmhicgbdalniaaGreatDoor
namespace Go.Proofs.YtnmhicgbdalniaaGreatDoor
open Go.RowKit Go.Sort

/-- The closure tells by a variable that is not its own, or breaks off. -/
def SkewTold (s : St) (p : Pd) (name : ByteArray) (b : Nat) (w : World) (e : Ending) (w' : World) : Prop :=
  ((domV s name p.key).2 = true ∧ e = .returned (.tuple #[]) ∧ ∃ w1, Below w.heap.size w w1 ∧ w' = w1.setCell ⟨b, 0, none⟩ (.int .i64 ((hereV s p (domV s name p.key).1 : Int) - leastV s p (domV s name p.key).1 (hereV s p (domV s name p.key).1) (domsV s.nodes p.key))))
  ∨ ((domV s name p.key).2 = false ∧ e = .panicked [{ v := stopV 10, recovered := false }] ∧ Below w.heap.size w w')
set_option maxHeartbeats 4000000 in
set_option maxRecDepth 100000 in
theorem skew1_stops (b0 b1 b2 b3 : Nat) (s : St) (p : Pd) (name : ByteArray) (cs _ : List Value) (w : World) (h0 : w.heap[b0]? = some (.cells cs.toArray 26 (0, 0))) (hks : Kd.state.K (vw w []) s cs)
    (h1 : w.cell? ⟨b1, 0, none⟩ = some (.string name)) (h2 : w.cell? ⟨b2, 7, none⟩ = some (.string p.key)) (hd : (domV s name p.key).2 = false) :
    Calls Tryz.prog 176 #[.pointer (some ⟨b0, 0, none⟩), .pointer (some ⟨b1, 0, none⟩), .pointer (some ⟨b2, 0, none⟩), .pointer (some ⟨b3, 0, none⟩)] w (SkewTold s p name b3 w) := by
  have hv : Kd.state.V (vw w []) (.agg cs.toArray) s := ⟨cs, rfl, hks⟩
  obtain ⟨A1, c1, A2, c2, A3, c3, rfl, -⟩ := hks
  obtain ⟨z, zf⟩ := blk_all h0
  have HV : Hid (Kd.state.V (vw w []) (.agg #[.slice A1 s.nodes.length c1, .slice A2 s.pods.length c2, .slice A3 s.budgets.length c3]) s) := hv
  have q0 : w.cell? ⟨b0, 0, none⟩ = some (.slice A1 s.nodes.length c1) := z 0
  have q1 : w.cell? ⟨b0, 1, none⟩ = some (.slice A2 s.pods.length c2) := z 1
  have q2 : w.cell? ⟨b0, 2, none⟩ = some (.slice A3 s.budgets.length c3) := z 2
  clear hv h0 z
  have HD := Lib.hid hd
  clear hd
  go_enter Tryz.func176, Tryz.ntmps176
  go_wp2_with fail
  refine (domain_calls _ s name p.key _ (by exact HV.out)).mono ?_
  rintro e w1 ⟨hb, ⟨h, -⟩ | ⟨-, rfl⟩⟩
  · rw [HD.out] at h; cases h
  · exact ⟨rfl, .inr ⟨HD.out, rfl, hb⟩⟩
end Go.Proofs.YtnmhicgbdalniaaGreatDoor
namespace Go.Proofs.YtnmhicgbdalniaaGreatDoor
open Go.RowKit Go.Sort

set_option maxHeartbeats 4000000 in
set_option maxRecDepth 100000 in
theorem skew1_tells (b0 b1 b2 b3 : Nat) (s : St) (p : Pd) (name : ByteArray) (cs cp : List Value) (w : World) (h0 : w.heap[b0]? = some (.cells cs.toArray 26 (0, 0))) (hks : Kd.state.K (vw w []) s cs)
    (h1 : w.cell? ⟨b1, 0, none⟩ = some (.string name)) (h2 : w.heap[b2]? = some (.cells cp.toArray 35 (0, 0))) (hkp : Kd.pod.K (vw w []) p cp) (h3 : w.heap[b3]? = some (.cells #[.int .i64 0] 3 (0, 0))) (hn : s.nodes.length ≤ 1000) (hpn : s.pods.length ≤ 1000) (hd : (domV s name p.key).2 = true) :
    Calls Tryz.prog 176 #[.pointer (some ⟨b0, 0, none⟩), .pointer (some ⟨b1, 0, none⟩), .pointer (some ⟨b2, 0, none⟩), .pointer (some ⟨b3, 0, none⟩)] w (SkewTold s p name b3 w) := by
  have hvs : Kd.state.V (vw w []) (.agg cs.toArray) s := ⟨cs, rfl, hks⟩
  have hvp : Kd.pod.V (vw w []) (.agg cp.toArray) p := ⟨cp, rfl, hkp⟩
  obtain ⟨A1, c1, A2, c2, A3, c3, rfl, -⟩ := hks
  obtain ⟨P1, p1, P2, p2, P3, p3, P4, p4, rfl, -⟩ := hkp
  have HVS : Hid (Kd.state.V (vw w []) (.agg #[.slice A1 s.nodes.length c1, .slice A2 s.pods.length c2, .slice A3 s.budgets.length c3]) s) := hvs
  have HVP : Hid (Kd.pod.V (vw w []) (.agg #[.string p.name, .string p.owner, .int .i64 p.prio, .slice P1 p.need.length p1, .slice P2 p.labels.length p2, .slice P3 p.sel.length p3, .slice P4 p.tols.length p4, .string p.key, .int .i64 p.most, .string p.node, .bool p.hold]) p) := hvp
  have HK := Lib.hid (And.intro h0 (And.intro h2 h3))
  obtain ⟨z, zf⟩ := blk_all h0
  obtain ⟨y, yf⟩ := blk_all h2
  have z0 : w.cell? ⟨b0, 0, none⟩ = some (.slice A1 s.nodes.length c1) := z 0
  have z1 : w.cell? ⟨b0, 1, none⟩ = some (.slice A2 s.pods.length c2) := z 1
  have z2 : w.cell? ⟨b0, 2, none⟩ = some (.slice A3 s.budgets.length c3) := z 2
  have l0 := blk_lt h0
  have l2 := blk_lt h2
  have l3 := blk_lt h3
  clear hvs hvp h0 h2 h3 z
  obtain ⟨d, ok, hdd⟩ : ∃ d ok, domV s name p.key = (d, ok) := ⟨_, _, rfl⟩
  rw [hdd] at hd
  simp only at hd
  subst hd
  have HD := Lib.hid hdd
  clear hdd
  go_enter Tryz.func176, Tryz.ntmps176
  go_wp2_with fail
  refine (domain_calls _ s name p.key _ (by exact HVS.out)).mono ?_
  unfold DomDone
  rw [HD.out]
  rintro e w1 ⟨hb, h⟩
  obtain ⟨-, rfl⟩ := h.resolve_right (by rintro ⟨h, -⟩; cases h)
  have HB1 := Lib.hid hb
  have v1 := (hb.block _ l0).trans HK.out.1
  have v2 := (hb.block _ l2).trans HK.out.2.1
  have HK1 := Lib.hid (And.intro v1 v2)
  clear z0 z1 z2 y zf yf hb h h1
  obtain ⟨z, zf⟩ := blk_all v1
  obtain ⟨y, yf⟩ := blk_all v2
  have l0' := blk_lt v1
  have l2' := blk_lt v2
  clear v1 v2
  go_wp2_with fail
  refine (Count_calls _ _ s p d _ (V_below HVS.out HB1.out) (V_below HVP.out HB1.out)).mono ?_
  rintro e w2 ⟨rfl, hb⟩
  have HB2 := Lib.hid (Below.then HB1.out hb)
  have v1 := (hb.block _ l0').trans HK1.out.1
  have v2 := (hb.block _ l2').trans HK1.out.2
  have HK2 := Lib.hid (And.intro v1 v2)
  clear z zf y yf hb
  obtain ⟨z, zf⟩ := blk_all v1
  obtain ⟨y, yf⟩ := blk_all v2
  have l0'' := blk_lt v1
  have l2'' := blk_lt v2
  have hpk := countV_le s p d s.pods
  clear v1 v2
  go_wp2_with fail
  refine (Domains_calls _ s p.key _ (V_below HVS.out HB2.out) hn).mono ?_
  rintro e w3 ⟨sv, rfl, ho, hb⟩
  have HB3 := Lib.hid (Below.then HB2.out hb)
  have v1 := (hb.block _ l0'').trans HK2.out.1
  have v2 := (hb.block _ l2'').trans HK2.out.2
  have HUW := Lib.hid (And.intro v1 v2)
  have HO := Lib.hid ho
  clear z zf y yf hb v1 v2 ho
  have hdl := domsV_len s.nodes p.key
  have hle0 : ∀ k, leastV s p d (hereV s p d) ((domsV s.nodes p.key).take k) ≤ hereV s p d := fun k => leastV_le s p d _ _
  have HT : Hid (∀ w', (∃ w1, Below w.heap.size w w1 ∧ w' = w1.setCell ⟨b3, 0, none⟩ (.int .i64 ((hereV s p d : Int) - leastV s p d (hereV s p d) (domsV s.nodes p.key)))) → SkewTold s p name b3 w (.returned (.tuple #[])) w') := fun w' h => .inl ⟨by rw [HD.out], rfl, by rw [HD.out]; exact h⟩
  obtain ⟨l, hl⟩ : ∃ l, domsV s.nodes p.key = l := ⟨_, rfl⟩
  rw [hl] at hdl hle0 HO HT
  have HLE := Lib.hid hle0
  clear hl hle0
  rcases own_view HO.out with ⟨rfl, rfl⟩ | ⟨g, c, rfl, hbg, hgl, hncap, hcm, hH⟩
  · go_wp2
    go_loop [6, 25] (fun m i => i = .int .i64 0 ∧ m = .int .i64 (hereV s p d : Nat)) (fun _ _ => 0)
    case atStart => exact ⟨by simp, rfl⟩
    case round =>
      obtain ⟨rfl, rfl⟩ := hrel
      have hh : hereV s p d = countV s p d s.pods + 1 := rfl
      have v3 := (HB3.out.block _ l3).trans HK.out.2.2
      obtain ⟨x, xf⟩ := blk_all v3
      clear v3
      go_wp2
      have HX : Hid ((hereV s p d : Int) - leastV s p d (hereV s p d) [] = 0) := by
        show _ = _
        simp [leastV]
      go_end0
      exact HT.out _ ⟨_, HB3.out, by rw [HX.out]⟩
  · have HH := Lib.hid hH
    have b5 : l.length ≤ c := hncap
    clear hH hbg hncap hcm
    have l3' := blk_lt HUW.out.1
    have l4' := blk_lt HUW.out.2
    go_wp2
    go_loopw [6, 25] (fun m i wr => ∃ k : Nat, k ≤ l.length ∧ i = .int .i64 k ∧ m = .int .i64 (leastV s p d (hereV s p d) (l.take k) : Nat) ∧ Hid (Below w3.heap.size w3 wr)) (fun _ i _ => l.length - (intOf i).toNat)
    case atStart => exact ⟨0, Nat.zero_le _, rfl, by simp [hereV, leastV], Below.refl _ _⟩
    case round =>
      obtain ⟨k, hk, rfl, rfl, HB⟩ := hrel
      have q1 := (HB.out.block _ l3').trans HUW.out.1
      have q2 := (HB.out.block _ l4').trans HUW.out.2
      obtain ⟨z, zf⟩ := blk_all q1
      obtain ⟨y, yf⟩ := blk_all q2
      clear q1 q2
      by_cases hlt : k < l.length
      · have c0 : wr.cell? ⟨g, k, none⟩ = some (.string (ba l[k])) := (HB.out.cell (p := ⟨g, k, none⟩) hgl).trans (HH.out k hlt)
        have hgl2 : g < wr.heap.size := Nat.lt_of_lt_of_le hgl HB.out.size
        have hsn := leastV_snoc s p d (hereV s p d) hlt
        have hm := HLE.out k
        have hcl2 := countV_le s p (ba l[k]) s.pods
        have hh : hereV s p d = countV s p d s.pods + 1 := rfl
        have e6 : (!(ba l[k]).toList == d.toList) = !decide (ba l[k] = d) := by
          by_cases h : ba l[k] = d
          · rw [str_beq h, decide_eq_true h]
          · rw [str_nbeq h, decide_eq_false h]
        have b1 : (0 : Int) ≤ (k : Int) := by omega
        have b2 : (k : Int) < (l.length : Int) := by omega
        by_cases hdk : ba l[k] = d
        · rw [decide_eq_true hdk] at e6
          rw [if_pos hdk] at hsn
          have HSN := Lib.hid hsn
          clear hsn hdk hh
          go_wp2
          go_roundw
          case rel => exact ⟨k + 1, by omega, by go_num, by rw [HSN.out], HB.out⟩
          case measure => simp [intOf]; omega
        · rw [decide_eq_false hdk] at e6
          rw [if_neg hdk] at hsn
          have HSN := Lib.hid hsn
          clear hsn hdk hh
          go_wp2_with fail
          refine (Count_calls _ _ s p (ba l[k]) _ (V_below HVS.out (Below.then HB3.out HB.out)) (V_below HVP.out (Below.then HB3.out HB.out))).mono ?_
          rintro e w5 ⟨rfl, hb5⟩
          have HB7 := Lib.hid (Below.then HB.out hb5)
          clear hb5
          have hmi : (min (leastV s p d (hereV s p d) (l.take k) : Int) (countV s p (ba l[k]) s.pods : Int)) = ((min (leastV s p d (hereV s p d) (l.take k)) (countV s p (ba l[k]) s.pods) : Nat) : Int) := by omega
          have HMI := Lib.hid hmi
          clear hmi
          go_wp2
          go_roundw
          case rel => exact ⟨k + 1, by omega, by go_num, by rw [HSN.out, ← HMI.out], HB7.out⟩
          case measure => simp [intOf]; omega
      · obtain rfl : k = l.length := by omega
        have v3 := ((Below.then HB3.out HB.out).block _ l3).trans HK.out.2.2
        obtain ⟨x, xf⟩ := blk_all v3
        clear v3
        go_wp2
        have hm := HLE.out l.length
        rw [List.take_length] at hm
        have hh : hereV s p d = countV s p d s.pods + 1 := rfl
        have HX : Hid (wrap64 ((countV s p d s.pods : Int) + 1 - (leastV s p d (hereV s p d) l : Nat)) = (hereV s p d : Int) - leastV s p d (hereV s p d) l) := by
          show _ = _
          rw [IntWalk.wrap64_in _ (by omega), hh]
          push_cast
          rfl
        go_end0
        exact HT.out _ ⟨_, Below.then HB3.out HB.out, by rw [HX.out]⟩
end Go.Proofs.YtnmhicgbdalniaaGreatDoor
namespace Go.Proofs.YtnmhicgbdalniaaGreatDoor
open Go.RowKit Go.Sort

theorem callFunc_skew1 (args : Array Value) (w : World) : (callFunc 176 args).run Tryz.prog w = .ok (.enter 176 args) w := by
  simp [go_sem]
set_option maxHeartbeats 4000000 in
set_option maxRecDepth 100000 in
theorem Skew_calls (vs vp : Value) (s : St) (p : Pd) (name : ByteArray) (w : World) (hs : Kd.state.V (vw w []) vs s) (hp : Kd.pod.V (vw w []) vp p) (hn : s.nodes.length ≤ 1000) (hpn : s.pods.length ≤ 1000) :
    Calls Tryz.prog 100 #[vs, vp, .string name] w (SkewDone s p name w) := by
  have hmf : ∀ (fn : Fn) (first cap : Array Value) (w : World), (Instr.makeFunc fn first cap).run Tryz.prog w = .ok (.func fn first cap) w := fun _ _ _ _ => rfl
  obtain ⟨cs, rfl, hks⟩ := hs
  obtain ⟨cp, rfl, hkp⟩ := hp
  have HKS := Lib.hid hks
  have HKP := Lib.hid hkp
  obtain ⟨A1, c1, A2, c2, A3, c3, rfl, -⟩ := hks
  obtain ⟨P1, p1, P2, p2, P3, p3, P4, p4, rfl, -⟩ := hkp
  go_enter Tryz.func100, Tryz.ntmps100
  go_upto_region 1 with fail
  obtain ⟨W, hW⟩ : ∃ W : World, W = (((w.alloc (.cells #[.slice A1 s.nodes.length c1, .slice A2 s.pods.length c2, .slice A3 s.budgets.length c3] 26)).alloc (.cells #[.string p.name, .string p.owner, .int .i64 p.prio, .slice P1 p.need.length p1, .slice P2 p.labels.length p2, .slice P3 p.sel.length p3, .slice P4 p.tols.length p4, .string p.key, .int .i64 p.most, .string p.node, .bool p.hold] 35)).alloc (.cells #[.string name] 9)) := ⟨_, rfl⟩
  rw [← hW]
  have hbw : Below w.heap.size w W := by rw [hW]; exact Below.then (Below.then (alloc_below _ _) (alloc_below _ _)) (alloc_below _ _)
  have k1 : W.heap[w.heap.size]? = some (.cells [.slice A1 s.nodes.length c1, .slice A2 s.pods.length c2, .slice A3 s.budgets.length c3].toArray 26 (0, 0)) := by
    rw [hW]; exact (blk_old _ _ (by simp; omega)).trans ((blk_old _ _ (by simp)).trans (blk_last _ _))
  have k2 : W.heap[w.heap.size + 1]? = some (.cells #[.string p.name, .string p.owner, .int .i64 p.prio, .slice P1 p.need.length p1, .slice P2 p.labels.length p2, .slice P3 p.sel.length p3, .slice P4 p.tols.length p4, .string p.key, .int .i64 p.most, .string p.node, .bool p.hold] 35 (0, 0)) := by
    rw [hW]; exact (blk_old _ _ (by simp)).trans ((show _ = w.heap.size + 1 by simp : (w.alloc (.cells #[.slice A1 s.nodes.length c1, .slice A2 s.pods.length c2, .slice A3 s.budgets.length c3] 26)).heap.size = w.heap.size + 1) ▸ blk_last _ _)
  have k3 : W.heap[w.heap.size + 2]? = some (.cells #[.string name] 9 (0, 0)) := by
    rw [hW]
    have := blk_last ((w.alloc (.cells #[.slice A1 s.nodes.length c1, .slice A2 s.pods.length c2, .slice A3 s.budgets.length c3] 26)).alloc (.cells #[.string p.name, .string p.owner, .int .i64 p.prio, .slice P1 p.need.length p1, .slice P2 p.labels.length p2, .slice P3 p.sel.length p3, .slice P4 p.tols.length p4, .string p.key, .int .i64 p.most, .string p.node, .bool p.hold] 35)) (.cells #[.string name] 9)
    simpa using this
  have HK0 := Lib.hid (And.intro k1 (And.intro k2 k3))
  have HBW := Lib.hid hbw
  obtain ⟨y, yf⟩ := blk_all k2
  have l2 := blk_lt k2
  clear hbw k1 k2 k3 hW
  have e1 := empty_beq p.key
  by_cases ha : p.key = ⟨#[]⟩
  · have hz : skewV s p name = (0, true) := by unfold skewV; rw [if_pos ha]
    rw [decide_eq_true ha] at e1
    have HZ := Lib.hid hz
    clear hz ha
    go_wp2
    go_ret2
    exact ⟨ret_ib HZ.out, HBW.out⟩
  have hz : skewV s p name = if (domV s name p.key).2 then ((hereV s p (domV s name p.key).1 : Int) - leastV s p (domV s name p.key).1 (hereV s p (domV s name p.key).1) (domsV s.nodes p.key), true) else (0, false) := by unfold skewV; rw [if_neg ha]
  rw [decide_eq_false ha] at e1
  have HZ := Lib.hid hz
  clear ha hz
  go_wp2_with fail
  have hxs : (W.alloc (.cells #[.int .i64 0] 3)).heap.size = W.heap.size + 1 := by simp
  have hx : Below W.heap.size W ((W.alloc (.cells #[.int .i64 0] 3)).alloc (.cells #[.int .i64 0] 71)) := Below.then (alloc_below _ _) (alloc_below _ _)
  have x3 : ((W.alloc (.cells #[.int .i64 0] 3)).alloc (.cells #[.int .i64 0] 71)).heap[W.heap.size]? = some (.cells #[.int .i64 0] 3 (0, 0)) := (blk_old _ _ (by simp)).trans (blk_last _ _)
  have r1 := (hx.block _ (blk_lt HK0.out.1)).trans HK0.out.1
  have r2 := (hx.block _ (blk_lt HK0.out.2.1)).trans HK0.out.2.1
  have r3 := (hx.block _ (blk_lt HK0.out.2.2)).trans HK0.out.2.2
  have HXB := Lib.hid hx
  by_cases hd : (domV s name p.key).2 = true
  · have h := skew1_tells w.heap.size (w.heap.size + 1 + 1) (w.heap.size + 1) W.heap.size s p name _ _ _ r1 (Kd.state.mono (vw_below (Below.then HBW.out hx)) HKS.out) ((blk_all r3).1 0) r2 (Kd.pod.mono (vw_below (Below.then HBW.out hx)) HKP.out) x3 hn hpn hd
    have HX3 := Lib.hid x3
    clear r1 r2 r3 x3 hx
    obtain ⟨V, hV⟩ : ∃ V : Int, V = (hereV s p (domV s name p.key).1 : Int) - leastV s p (domV s name p.key).1 (hereV s p (domV s name p.key).1) (domsV s.nodes p.key) := ⟨_, rfl⟩
    have hz2 : skewV s p name = (V, true) := by rw [HZ.out, if_pos hd, hV]
    have HZ2 := Lib.hid hz2
    unfold SkewTold at h
    rw [← hV] at h
    clear hV hz2
    refine (try_calls _ _ _ (fun n w2 => n = 0 ∧ ∃ w1, Below ((W.alloc (.cells #[.int .i64 0] 3)).alloc (.cells #[.int .i64 0] 71)).heap.size ((W.alloc (.cells #[.int .i64 0] 3)).alloc (.cells #[.int .i64 0] 71)) w1 ∧ w2 = w1.setCell ⟨W.heap.size, 0, none⟩ (.int .i64 V)) (callFunc_skew1 _) (h.mono ?_)).mono ?_
    · rintro e w2 (⟨-, rfl, w1, hb, rfl⟩ | ⟨h0, -⟩)
      · exact ⟨(Below.heap_setCell w1 ⟨W.heap.size, 0, none⟩ _ _ (by simp)).trans (hb.block _ (by simp)), .inl ⟨_, rfl, rfl, w1, hb, rfl⟩⟩
      · rw [hd] at h0; cases h0
    clear h
    rintro e w' ⟨n, w2, rfl, ⟨rfl, w1, hb, rfl⟩, hb3⟩
    have v3 := (hb.block _ (by simp; omega)).trans HX3.out
    have v4 := heap_setCell_same (y := .int .i64 V) v3
    have l4 := blk_lt v4
    have v5 := (hb3.block _ l4 (by simp)).trans v4
    obtain ⟨x, xf⟩ := blk_all v5
    have hW2 : Below W.heap.size W (w1.setCell ⟨W.heap.size, 0, none⟩ (.int .i64 V)) := (Below.then HXB.out hb).setCell (p := ⟨W.heap.size, 0, none⟩) (Nat.le_refl _) _
    have HB4 : Hid (Below w.heap.size w w') := Below.then HBW.out (hW2.trans (hb3.below (by simp) hW2.size))
    clear hW2 v3 v4 v5 hb hb3
    go_wp2
    go_ret2
    exact ⟨ret_ib HZ2.out, HB4.out⟩
  · have hd2 : (domV s name p.key).2 = false := by simpa using hd
    have h := skew1_stops w.heap.size (w.heap.size + 1 + 1) (w.heap.size + 1) W.heap.size s p name _ [] _ r1 (Kd.state.mono (vw_below (Below.then HBW.out hx)) HKS.out) ((blk_all r3).1 0) ((blk_all r2).1 7) hd2
    have hz2 : skewV s p name = (0, false) := by rw [HZ.out, if_neg hd]
    have HZ2 := Lib.hid hz2
    have HX3 := Lib.hid x3
    clear r1 r2 r3 x3 hx hz2
    refine (try_calls _ _ _ (fun n w2 => n = 10 ∧ Below ((W.alloc (.cells #[.int .i64 0] 3)).alloc (.cells #[.int .i64 0] 71)).heap.size ((W.alloc (.cells #[.int .i64 0] 3)).alloc (.cells #[.int .i64 0] 71)) w2) (callFunc_skew1 _) (h.mono ?_)).mono ?_
    · rintro e w2 (⟨h0, -⟩ | ⟨-, rfl, hb⟩)
      · rw [hd2] at h0; cases h0
      · exact ⟨hb.block _ (by simp), .inr ⟨10, by omega, rfl, rfl, hb⟩⟩
    clear h
    rintro e w' ⟨n, w2, rfl, ⟨rfl, hb⟩, hb3⟩
    have v4 := (hb.block _ (by simp; omega)).trans HX3.out
    have l4 := blk_lt v4
    have v5 := (hb3.block _ l4 (by simp)).trans v4
    obtain ⟨x, xf⟩ := blk_all v5
    have hW2 := Below.then HXB.out hb
    have HB4 : Hid (Below w.heap.size w w') := Below.then HBW.out (hW2.trans (hb3.below (by simp) hW2.size))
    clear hW2 v4 v5 hb hb3
    go_wp2
    go_ret2
    exact ⟨ret_ib HZ2.out, HB4.out⟩
end Go.Proofs.YtnmhicgbdalniaaGreatDoor
namespace Go.Proofs.YtnmhicgbdalniaaGreatDoor
open Go.RowKit Go.Sort

/-! Who stands too close. -/
end Go.Proofs.YtnmhicgbdalniaaGreatDoor
namespace Go.Proofs.YtnmhicgbdalniaaGreatDoor
open Go.RowKit

/-! Numbers with edges: the document's side. -/
theorem rRatio_calls (a b : Int) (w : World) : Calls Tryz.prog 132 #[.int .i64 a, .int .i64 b] w (FloDone (quoF (ofI a) (ofI b)) w) := by
  obtain ⟨r, q, h1, h2, h3⟩ := run_quo (P := Tryz.prog) w 74 (floatOfInt .f64 a) (floatOfInt .f64 b)
  rw [fl_ofI, fl_ofI] at h2
  go_enter Tryz.func132, Tryz.ntmps132
  go_wp2_with (simp only [h1])
  go_ret
  exact ⟨r, rfl, h3, h2, below_drewN (Below.refl _ _) q⟩
theorem cls_range (x : Fl) : 0 ≤ clsF x ∧ clsF x ≤ 6 := by
  cases x with
  | none => exact ⟨by decide, by decide⟩
  | some b =>
    have := cls_some b
    refine ⟨?_, by omega⟩
    simp only [clsF]
    repeat' split
    all_goals omega
theorem quo_none : quoF (ofI 0) (ofI 0) = none := by rfl
theorem rnan_calls (w : World) : Calls Tryz.prog 212 #[] w (FloDone none w) := by
  have N := Lib.hid (rRatio_calls 0 0)
  go_enter Tryz.func212, Tryz.ntmps212
  go_wp2_with fail
  refine (N.out _).mono ?_
  rintro e w' ⟨r, rfl, h1, h2, h3⟩
  have H := Lib.hid (And.intro h1 (And.intro (h2.trans quo_none) h3))
  clear h1 h2 h3
  go_wp2
  go_ret
  exact ⟨r, rfl, H.out.1, H.out.2.1, H.out.2.2⟩
set_option maxHeartbeats 4000000 in
set_option maxRecDepth 100000 in
theorem rClass_calls (b : Nat) (hb : b < 18446744073709551616) (w : World) : Calls Tryz.prog 206 #[.float .f64 b] w fun e w' => e = .returned (.int .i64 (clsF (fl b))) ∧ Below w.heap.size w w' := by
  have hx := cls_tells b
  obtain ⟨r1, q1, s1, o1⟩ := run_self (P := Tryz.prog) w 74 b
  obtain ⟨r2, q2, s2, o2⟩ := run_self (P := Tryz.prog) (w.drewN q1) 74 b
  have e0 : (FloatKind.f64.format.order b b != some .eq) = decide (fInf < fRung b) := ord_nan b
  have ez : (FloatKind.f64.format.order b 0 == some .eq) = decide (fRung b = 0) := ord_eq0 b
  have el : (FloatKind.f64.format.order b 0 == some .lt) = (decide (fRung b ≤ fInf) && decide (0 < fRung b) && fNeg b) := ord_lt0 b
  have o1' : (FloatKind.f64.format.order r1 0 != some .eq) = decide (fInf ≤ fRung b) := o1
  have o2' : (FloatKind.f64.format.order r2 0 != some .eq) = decide (fInf ≤ fRung b) := o2
  have hz := inv_zero hb
  obtain ⟨c0, h0⟩ : ∃ c, decide (fInf < fRung b) = c := ⟨_, rfl⟩
  obtain ⟨cz, h1⟩ : ∃ c, decide (fRung b = 0) = c := ⟨_, rfl⟩
  obtain ⟨cl, h2⟩ : ∃ c, (decide (fRung b ≤ fInf) && decide (0 < fRung b) && fNeg b) = c := ⟨_, rfl⟩
  obtain ⟨ci, h3⟩ : ∃ c, decide (fInf ≤ fRung b) = c := ⟨_, rfl⟩
  obtain ⟨cn, h4⟩ : ∃ c, fNeg b = c := ⟨_, rfl⟩
  rw [h0, h1, h2, h3, h4] at hx
  rw [h0] at e0
  rw [h1] at ez
  rw [h2] at el
  rw [h3] at o1' o2'
  have HX := Lib.hid hx
  have HD := Lib.hid (And.intro (below_drewN (Below.refl w.heap.size w) q1) (below_drewN (Below.refl w.heap.size w) (q1 + q2)))
  clear hx o1 o2
  cases c0
  case true =>
    clear h0 h1 h2 h3 h4 hz
    go_enter Tryz.func206, Tryz.ntmps206
    go_wp2
    go_ret
    exact ⟨by rw [HX.out]; rfl, Below.refl _ _⟩
  cases cz
  case true =>
    obtain ⟨r, d1, d2⟩ := hz (of_decide_eq_true h1)
    have d3 := run_float_arith (P := Tryz.prog) w .quo 74 .f64 4607182418800017408 b r d1
    have d4 : (FloatKind.f64.format.order r 0 == some .lt) = cn := d2.trans h4
    clear h0 h1 h2 h3 h4 hz d1 d2
    cases cn
    all_goals (
      go_enter Tryz.func206, Tryz.ntmps206
      go_wp2_with (simp only [d3])
      go_ret
      exact ⟨by rw [HX.out]; rfl, Below.refl _ _⟩)
  clear h0 h1 h2 h3 h4 hz
  cases ci <;> cases cl
  all_goals (
    go_enter Tryz.func206, Tryz.ntmps206
    go_wp2_with (first | simp only [s1] | simp only [s2])
    go_ret
    first | exact ⟨by rw [HX.out]; rfl, HD.out.1⟩ | exact ⟨by rw [HX.out]; rfl, HD.out.2⟩)
set_option maxHeartbeats 4000000 in
set_option maxRecDepth 100000 in
theorem rCompare_calls (a b : Nat) (ha : a < 18446744073709551616) (hb : b < 18446744073709551616) (w : World) : Calls Tryz.prog 124 #[.float .f64 a, .float .f64 b] w fun e w' => e = .returned (.int .i64 (cmpF (fl a) (fl b))) ∧ Below w.heap.size w w' := by
  obtain ⟨p, hp⟩ : ∃ p, clsF (fl a) = p := ⟨_, rfl⟩
  obtain ⟨q, hq⟩ : ∃ q, clsF (fl b) = q := ⟨_, rfl⟩
  have n1 := rClass_calls a ha
  have n2 := rClass_calls b hb
  rw [hp] at n1
  rw [hq] at n2
  have N1 := Lib.hid n1
  have N2 := Lib.hid n2
  clear n1 n2
  rcases Int.lt_trichotomy p q with h | h | h
  · have HX : Hid (cmpF (fl a) (fl b) = -1) := cmpF_cls_lt (by omega)
    clear hp hq ha hb
    go_enter Tryz.func124, Tryz.ntmps124
    go_wp2_with fail
    refine (N1.out _).mono ?_
    rintro e w1 ⟨rfl, hb1⟩
    have HB1 := Lib.hid hb1
    clear hb1
    go_wp2_with fail
    refine (N2.out _).mono ?_
    rintro e w2 ⟨rfl, hb2⟩
    have HB2 := Lib.hid (Below.then HB1.out hb2)
    clear hb2
    go_wp2
    go_ret
    exact ⟨by rw [HX.out]; rfl, HB2.out⟩
  · subst h
    by_cases h14 : p = 1 ∨ p = 4
    · have hn : fRung a ≤ fInf := by
        rcases Nat.lt_or_ge fInf (fRung a) with h | h
        · have := cls_nan.2 h; omega
        · exact h
      obtain ⟨hb', hm⟩ := cmpF_mag (hp.trans hq.symm) hn
      have e1 : (FloatKind.f64.format.order a b == some .lt) = decide (fMag a < fMag b) := ord_lt hn hb'
      have e2 : (FloatKind.f64.format.order a b == some .gt) = decide (fMag b < fMag a) := ord_gt hn hb'
      have hx : cmpF (fl a) (fl b) = if decide (fMag a < fMag b) = true then -1 else if decide (fMag b < fMag a) = true then 1 else 0 := by rw [hm]; unfold cmpI; simp only [decide_eq_true_eq]
      obtain ⟨c1, h1⟩ : ∃ c, decide (fMag a < fMag b) = c := ⟨_, rfl⟩
      obtain ⟨c2, h2⟩ : ∃ c, decide (fMag b < fMag a) = c := ⟨_, rfl⟩
      rw [h1, h2] at hx
      rw [h1] at e1
      rw [h2] at e2
      have HX := Lib.hid hx
      clear hx h1 h2 hp hq ha hb hn hb' hm
      rcases h14 with rfl | rfl
      all_goals cases c1 <;> cases c2
      all_goals (
        go_enter Tryz.func124, Tryz.ntmps124
        go_wp2_with fail
        refine (N1.out _).mono ?_
        rintro e w1 ⟨rfl, hb1⟩
        have HB1 := Lib.hid hb1
        clear hb1
        go_wp2_with fail
        refine (N2.out _).mono ?_
        rintro e w2 ⟨rfl, hb2⟩
        have HB2 := Lib.hid (Below.then HB1.out hb2)
        clear hb2
        go_wp2
        go_ret
        exact ⟨by rw [HX.out]; rfl, HB2.out⟩)
    · have HX : Hid (cmpF (fl a) (fl b) = 0) := cmpF_one (hp.trans hq.symm) (by omega) (by omega)
      have hr := cls_range (fl a)
      rw [hp] at hr
      have hps : p = 0 ∨ p = 2 ∨ p = 3 ∨ p = 5 ∨ p = 6 := by omega
      clear hp hq ha hb h14 hr
      rcases hps with rfl | rfl | rfl | rfl | rfl
      all_goals (
        go_enter Tryz.func124, Tryz.ntmps124
        go_wp2_with fail
        refine (N1.out _).mono ?_
        rintro e w1 ⟨rfl, hb1⟩
        have HB1 := Lib.hid hb1
        clear hb1
        go_wp2_with fail
        refine (N2.out _).mono ?_
        rintro e w2 ⟨rfl, hb2⟩
        have HB2 := Lib.hid (Below.then HB1.out hb2)
        clear hb2
        go_wp2
        go_ret
        exact ⟨by rw [HX.out]; rfl, HB2.out⟩)
  · have HX : Hid (cmpF (fl a) (fl b) = 1) := cmpF_cls_gt (by omega)
    clear hp hq ha hb
    go_enter Tryz.func124, Tryz.ntmps124
    go_wp2_with fail
    refine (N1.out _).mono ?_
    rintro e w1 ⟨rfl, hb1⟩
    have HB1 := Lib.hid hb1
    clear hb1
    go_wp2_with fail
    refine (N2.out _).mono ?_
    rintro e w2 ⟨rfl, hb2⟩
    have HB2 := Lib.hid (Below.then HB1.out hb2)
    clear hb2
    go_wp2
    go_ret
    exact ⟨by rw [HX.out]; rfl, HB2.out⟩
theorem Alike_calls (a b : Nat) (ha : a < 18446744073709551616) (hb : b < 18446744073709551616) (w : World) : Calls Tryz.prog 51 #[.float .f64 a, .float .f64 b] w fun e w' => e = .returned (.bool (decide (cmpF (fl a) (fl b) = 0))) ∧ Below w.heap.size w w' := by
  have N := Lib.hid (rCompare_calls a b ha hb)
  obtain ⟨c, hc⟩ : ∃ c, cmpF (fl a) (fl b) = c := ⟨_, rfl⟩
  rw [hc] at N ⊢
  clear ha hb hc
  go_enter Tryz.func51, Tryz.ntmps51
  go_wp2_with fail
  refine (N.out _).mono ?_
  rintro e w1 ⟨rfl, hb1⟩
  have HB1 := Lib.hid hb1
  clear hb1
  go_wp2
  go_ret
  exact ⟨ret_bool (by cases h : decide (c = 0) <;> simp_all), HB1.out⟩
set_option maxHeartbeats 2000000 in
set_option maxRecDepth 100000 in
theorem rMean_calls (v : Value) (l : List Fl) (w : World) (hs : Kd.flt.S (vw w []) v l) : Calls Tryz.prog 130 #[v] w (FloDone (quoF (sumF l) (ofI l.length)) w) := by
  obtain ⟨A, cap, rfl, hs⟩ := hs.val
  obtain ⟨_, hcap, hlen⟩ := hs.form
  have HS := Lib.hid hs
  clear hs
  rcases Nat.eq_zero_or_pos l.length with h0 | h0
  · have HX : Hid (quoF (sumF l) (ofI l.length) = none) := by
      show _ = _
      rw [h0, List.eq_nil_of_length_eq_zero h0]; rfl
    have N := Lib.hid rnan_calls
    rw [HX.out, h0]
    go_enter Tryz.func130, Tryz.ntmps130
    go_wp2_with fail
    refine (N.out _).mono ?_
    rintro e w' ⟨r, rfl, h1, h2, h3⟩
    have H := Lib.hid (And.intro h1 (And.intro h2 h3))
    clear h1 h2 h3
    go_wp2
    go_ret
    exact ⟨r, rfl, H.out.1, H.out.2.1, H.out.2.2⟩
  have t1 : ((l.length : Int) == 0) = false := by
    have : ¬ (l.length : Int) = 0 := by omega
    simpa using this
  go_enter Tryz.func130, Tryz.ntmps130
  go_wp2
  go_loopw [3, 4] (fun u i wr => ∃ k r : Nat, k ≤ l.length ∧ i = .int .i64 k ∧ u = .float .f64 r ∧ Hid (fl r = sumF (l.take k)) ∧ Hid (Below w.heap.size w wr)) (fun _ i _ => l.length - (intOf i).toNat)
  case atStart => exact ⟨0, 0, Nat.zero_le _, rfl, rfl, rfl, Below.refl _ _⟩
  case round =>
    obtain ⟨k, r, hk, rfl, rfl, HG, HB⟩ := hrel
    by_cases hlt : k < l.length
    · obtain ⟨b, off, y, rfl, c0, -, hy⟩ := flt_at (HS.out.mono (vw_below HB.out)) k hlt
      have hsn := sumF_snoc l hlt
      rw [← HG.out, ← hy] at hsn
      obtain ⟨r', q, h1, h2, -⟩ := run_add (P := Tryz.prog) wr 74 r y
      have HG2 : Hid (fl r' = sumF (l.take (k + 1))) := h2.trans hsn.symm
      have HB2 := Lib.hid (below_drewN HB.out q)
      clear hsn h2 hy HG HB
      go_wp2_with (simp only [h1])
      go_round
      case rel => exact ⟨k + 1, r', by omega, by go_num, rfl, HG2.out, HB2.out⟩
      case measure => simp [intOf]; omega
    · obtain rfl : k = l.length := by omega
      have hg := HG.out
      rw [List.take_length] at hg
      obtain ⟨r', q, h1, h2, h3⟩ := run_quo (P := Tryz.prog) wr 74 r (floatOfInt .f64 l.length)
      rw [hg, fl_ofI] at h2
      have H3 := Lib.hid (And.intro h3 h2)
      have HB2 := Lib.hid (below_drewN HB.out q)
      clear hg h2 h3 HG HB
      go_wp2_with (simp only [h1])
      go_ret
      exact ⟨r', rfl, H3.out.1, H3.out.2, HB2.out⟩
end Go.Proofs.YtnmhicgbdalniaaGreatDoor
