import Derived.Test.YtnmhicgbdalniaaGreatDoorMs22
import Derived.Test.YtnmhicgbdalniaaGreatDoorMs35
import Derived.Test.YtnmhicgbdalniaaGreatDoorMs39
import Derived.Test.YtnmhicgbdalniaaGreatDoorMs44
namespace Go.Proofs.YtnmhicgbdalniaaGreatDoor
open Go.RowKit Go.Sort Go.Lib

/-! Which node is chosen: the program's side. -/
def StrsNew (l : List ByteArray) (w : World) (e : Ending) (w' : World) : Prop := ∃ sv, e = .returned sv ∧ Kd.str.S (nx w' w.heap.size none) sv l ∧ Below w.heap.size w w'
theorem name_sok {name : ByteArray} (h : isName name = true) : sok name := by
  have : name.size ≤ 40 := by
    unfold isName at h
    simp only [Bool.and_eq_true, decide_eq_true_eq] at h
    omega
  exact Nat.le_trans this (by decide)
theorem nodes_nodup {s : St} (h : Sound s) (q : Nd → Bool) : ((s.nodes.filter q).map (·.name)).Nodup := by
  have h1 : (s.nodes.filter q).Pairwise fun a b => ltS a.name b.name = true := h.nup.sublist List.filter_sublist
  refine up_nodup ?_
  rw [List.pairwise_map]
  exact h1
theorem order_says {s : St} {p : Pd} {pack : Bool} {ys : List ByteArray} (h : checkSt s = 0) (hs : Sorted (cmpOf (scoP s p) s p pack) (nodesQ s p) ys) : ys = orderV s p pack := by
  rw [nodesQ_eq h] at hs
  refine order_one ⟨hs.1, ?_⟩
  refine hs.2.imp_of_mem fun {a b} ha hb hab => ?_
  have key : ∀ x ∈ ys, scoP s p x = scoF s p x := fun x hx => by
    have hx2 := hs.1.mem_iff.1 hx
    unfold nodesV at hx2
    obtain ⟨n, hn, rfl⟩ := List.mem_map.1 hx2
    exact sco_eq (name_full (nodes_full h n (List.mem_filter.1 hn).1))
  unfold ltOf cmpOf at hab
  unfold ltOf cmpO cmpOf
  rwa [key a ha, key b hb] at hab
theorem Order_calls (vs vp : Value) (s : St) (p : Pd) (pack : Bool) (w : World) (hs : Kd.state.V (vw w []) vs s) (hp : Kd.pod.V (vw w []) vp p) (hck : checkSt s = 0) :
    Calls Tryz.prog 55 #[vs, vp, .bool pack] w (StrsNew (orderV s p pack) w) := by
  have hS := (sound_iff s).1 hck
  have h1 := hS.nlen
  have h2 := hS.plen
  refine (Order_sorts vs vp s p pack w hs hp (by omega) (by omega) hS.pup (fun n hn => Nat.le_trans (node_cap (hS.nok n hn)).len (by omega)) (fun n hn => name_sok (node_name (hS.nok n hn))) (nodes_nodup hS _)).mono ?_
  rintro e w' ⟨sv, ys, rfl, hso, hv, hb⟩
  obtain rfl := order_says hck hso
  exact ⟨sv, rfl, hv, hb⟩
def BestDone (l : List ByteArray) (w : World) (e : Ending) (w' : World) : Prop := e = .returned (.tuple #[.string (bestV l).1, .bool (bestV l).2]) ∧ Below w.heap.size w w'
set_option maxHeartbeats 4000000 in
set_option maxRecDepth 100000 in
theorem Choose_calls (vs vp : Value) (s : St) (p : Pd) (pack : Bool) (w : World) (hs : Kd.state.V (vw w []) vs s) (hp : Kd.pod.V (vw w []) vp p) (hck : checkSt s = 0) :
    Calls Tryz.prog 60 #[vs, vp, .bool pack] w (BestDone (orderV s p pack) w) := by
  obtain ⟨cs, rfl, hks⟩ := hs
  obtain ⟨cp, rfl, hkp⟩ := hp
  have HKS := Lib.hid hks
  have HKP := Lib.hid hkp
  obtain ⟨A1, c1, A2, c2, A3, c3, rfl, -⟩ := hks
  obtain ⟨P1, p1, P2, p2, P3, p3, P4, p4, rfl, -⟩ := hkp
  have HVS : Hid (Kd.state.V (vw w []) (.agg #[.slice A1 s.nodes.length c1, .slice A2 s.pods.length c2, .slice A3 s.budgets.length c3]) s) := ⟨_, rfl, HKS.out⟩
  have HVP : Hid (Kd.pod.V (vw w []) (.agg #[.string p.name, .string p.owner, .int .i64 p.prio, .slice P1 p.need.length p1, .slice P2 p.labels.length p2, .slice P3 p.sel.length p3, .slice P4 p.tols.length p4, .string p.key, .int .i64 p.most, .string p.node, .bool p.hold]) p) := ⟨_, rfl, HKP.out⟩
  obtain ⟨l, hl⟩ : ∃ l, orderV s p pack = l := ⟨_, rfl⟩
  have HN := Lib.hid (Order_calls (.agg #[.slice A1 s.nodes.length c1, .slice A2 s.pods.length c2, .slice A3 s.budgets.length c3]) (.agg #[.string p.name, .string p.owner, .int .i64 p.prio, .slice P1 p.need.length p1, .slice P2 p.labels.length p2, .slice P3 p.sel.length p3, .slice P4 p.tols.length p4, .string p.key, .int .i64 p.most, .string p.node, .bool p.hold]) s p pack · · · hck)
  rw [hl]
  rw [hl] at HN
  clear hl
  go_enter Tryz.func60, Tryz.ntmps60
  go_upto_region 1 with fail
  obtain ⟨W, hW, hbw, k1, k2, -⟩ := al2 w (.cells #[.slice A1 s.nodes.length c1, .slice A2 s.pods.length c2, .slice A3 s.budgets.length c3] 26) (.cells #[.string p.name, .string p.owner, .int .i64 p.prio, .slice P1 p.need.length p1, .slice P2 p.labels.length p2, .slice P3 p.sel.length p3, .slice P4 p.tols.length p4, .string p.key, .int .i64 p.most, .string p.node, .bool p.hold] 35)
  rw [← hW]
  have HBW := Lib.hid hbw
  obtain ⟨z, zf⟩ := blk_all k1
  obtain ⟨y, yf⟩ := blk_all k2
  clear hW hbw k1 k2
  go_wp2_with fail
  refine (HN.out _ (V_below HVS.out HBW.out) (V_below HVP.out HBW.out)).mono ?_
  rintro e w1 ⟨sv, rfl, hv, hb⟩
  obtain ⟨G, gc, rfl, hS⟩ := hv.val
  have HS := Lib.hid (hS.mono (nx_vw (M := []) (by simp)))
  have HB := Lib.hid (Below.then HBW.out hb)
  clear z zf y yf hb hv hS HN
  go_wp2
  go_loopw [15] (fun i wr => i = .int .i64 0 ∧ Hid (wr = w1)) (fun _ _ => 0)
  case atStart => exact ⟨rfl, rfl⟩
  case round =>
    obtain ⟨rfl, HW1⟩ := hrel
    cases l with
    | nil =>
      have hw := HW1.out
      subst hw
      go_wp2
      go_ret2
      exact ⟨rfl, HB.out⟩
    | cons a r =>
      have hw := HW1.out
      subst hw
      obtain ⟨b, off, rfl, c0, -⟩ := HS.out.elem1 0 (by simp)
      have c1 : wr.cell? ⟨b, off, none⟩ = some (.string a) := c0
      have hlt : (0 : Int) < ((a :: r).length : Int) := by simp
      have hlt2 : decide ((0 : Int) < ((a :: r).length : Int)) = true := decide_eq_true hlt
      clear c0
      go_wp2
      go_ret2
      exact ⟨rfl, HB.out⟩
end Go.Proofs.YtnmhicgbdalniaaGreatDoor
namespace Go.Proofs.YtnmhicgbdalniaaGreatDoor
open Go.RowKit

/-! 'x, ok := f(.., g(..))': one struct, the calls and the making of the variable in any order: PairJ, its second variable never made. -/
section
variable {α β : Type} {d1 : Kd α} {x : α} {T1 : TypeId} {d2 : Kd β} {y : β} {T2 : TypeId} {w W : World} {c1 c2 a1 a2 t1 t2 : Bool} {v1 v2 p1 p2 : Value}
/-- A call beside. -/
theorem PairJ.below (h : PairJ d1 x T1 d2 y T2 w c1 c2 a1 a2 t1 t2 v1 v2 p1 p2 W) {W' : World} (hb : Below W.heap.size W W') : PairJ d1 x T1 d2 y T2 w c1 c2 a1 a2 t1 t2 v1 v2 p1 p2 W' := by
  obtain ⟨h0, M, b1, b2, hM, k1, k2, l1, l2, ne, s1, s2⟩ := h
  refine ⟨Below.then h0 hb, M, b1, b2, fun k hk => Nat.lt_of_lt_of_le (hM k hk) hb.size, fun e => ?_, fun e => ?_, fun e => ?_, fun e => ?_, ne, fun e => ?_, fun e => ?_⟩
  · obtain ⟨cs, e1, e2⟩ := k1 e
    exact ⟨cs, e1, d1.mono (vw_below hb) e2⟩
  · obtain ⟨cs, e1, e2⟩ := k2 e
    exact ⟨cs, e1, d2.mono (vw_below hb) e2⟩
  · obtain ⟨e1, e2, e3, old, e4, e5⟩ := l1 e
    exact ⟨e1, e2, e3, old, e4, (hb.block _ (hM _ e3)).trans e5⟩
  · obtain ⟨e1, e2, e3, old, e4, e5⟩ := l2 e
    exact ⟨e1, e2, e3, old, e4, (hb.block _ (hM _ e3)).trans e5⟩
  · obtain ⟨cs, e1, e2⟩ := s1 e
    exact ⟨cs, e1, (hb.block _ (blk_lt e2)).trans e2⟩
  · obtain ⟨cs, e1, e2⟩ := s2 e
    exact ⟨cs, e1, (hb.block _ (blk_lt e2)).trans e2⟩
end
end Go.Proofs.YtnmhicgbdalniaaGreatDoor
namespace Go.Proofs.YtnmhicgbdalniaaGreatDoor
open Go.RowKit Go.Sort

/-! known of the ways' laws: the plain part. -/
def k15 : St := ⟨[ndN (tx [97]) 10, ndN (tx [98]) 10], [pdH 0 4 (tx [97]), pdH 1 5 (tx [97]), pdH 2 8 (tx [98]), pdP (tx [120]) 9 ⟨#[]⟩], []⟩
end Go.Proofs.YtnmhicgbdalniaaGreatDoor
namespace Go.Proofs.YtnmhicgbdalniaaGreatDoor
open Go.RowKit Go.Sort

/-! known of the scores' laws: the plain part. -/
def ndE (name : ByteArray) : Nd := ⟨name, [], [], [], false⟩
def k13 : St := ⟨[ndN (tx [97]) 10, ndN (tx [98]) 10, ndE (tx [99])], [pdP (tx [120]) 5 (tx [97])], []⟩
def y13 : Pd := pdP (tx [121]) 2 ⟨#[]⟩
theorem k13_ok : checkSt k13 = 0 := by decide +kernel
theorem k13_b : bestV (orderV k13 y13 false) = (tx [98], true) := by decide +kernel
theorem k13_a : bestV (orderV k13 y13 true) = (tx [97], true) := by decide +kernel
theorem k13_z : bestV (orderV k13 (pdP (tx [122]) 11 ⟨#[]⟩) true) = (⟨#[]⟩, false) := by decide +kernel
theorem k13_l : orderV k13 { name := tx [107], owner := ⟨#[]⟩, prio := 0, need := [], labels := [], sel := [], tols := [], key := ⟨#[]⟩, most := 0, node := ⟨#[]⟩, hold := false } false = [tx [98], tx [97], tx [99]] := by decide +kernel
theorem k13_cpu : useP k13 (tx [97]) (tx [99, 112, 117]) = some 4602678819172646912 := by decide +kernel
theorem k13_mem : clsF (useP k13 (tx [97]) (tx [109, 101, 109])) = 6 := by decide +kernel
theorem k13_of : scoP k13 y13 (tx [97]) = some 4604480259023595110 := by decide +kernel
theorem k13_ofc : clsF (scoP k13 y13 (tx [99])) = 6 := by decide +kernel
theorem ord_lit {r n : Nat} (h : fl r = some n) : (Ieee.double.order r n == some .eq) = true := by
  obtain ⟨rfl, h2⟩ := fl_some h
  rw [ord_eq h2 h2]; exact decide_eq_true rfl
end Go.Proofs.YtnmhicgbdalniaaGreatDoor
