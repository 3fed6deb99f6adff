import Derived.Test.YtnmhicgbdalniaaGreatDoorMs2
import Derived.Test.YtnmhicgbdalniaaGreatDoorMs22
import Derived.Test.YtnmhicgbdalniaaGreatDoorMs23
import Derived.Test.YtnmhicgbdalniaaGreatDoorMs26
import Derived.Test.YtnmhicgbdalniaaGreatDoorMs27
import Derived.Test.YtnmhicgbdalniaaGreatDoorMs28
import Derived.Deep.RegionHeld3
import Derived.Deep.Light
namespace Go.Proofs.YtnmhicgbdalniaaGreatDoor
open Go.RowKit Go.Sort

/-! made, Add and Sub. -/
theorem AmtFn.below {F : FuncId} {cs : List Value} {f : ByteArray → Int × Int} {w w0 : World} (h : AmtFn F cs f w) (hb : Below w.heap.size w w0) : AmtFn F cs f w0 :=
  ⟨h.1, fun W s hW hs => h.2 W s (hb.trans (hW.mono hb.size)) hs⟩
theorem callFunc_made1 (args : Array Value) (w : World) : (callFunc 302 args).run Tryz.prog w = .ok (.enter 302 args) w := by
  simp [go_sem]
set_option maxHeartbeats 8000000 in
set_option maxRecDepth 100000 in
theorem made_calls (F : FuncId) (pa pb : Addr) (f : ByteArray → Int × Int) (v : Value) (ls : List (List Amt)) (w : World)
    (hF : ∀ (s : ByteArray) (W : World), (callFunc F #[.string s, .pointer (some pa), .pointer (some pb)]).run Tryz.prog W = .ok (.enter F #[.string s, .pointer (some pa), .pointer (some pb)]) W)
    (hf : AmtFn F [.pointer (some pa), .pointer (some pb)] f w) (hv : (Kd.slice Kd.amt).S (vw w []) v ls) (hl : chkL ls = 0 → ls.flatten.length ≤ 1000) :
    Calls Tryz.prog 259 #[.func (.func F) #[] #[.pointer (some pa), .pointer (some pb)], v] w (VecNew (madeV f ls) w) := by
  have hmf : ∀ (fn : Fn) (first cap : Array Value) (w : World), (Instr.makeFunc fn first cap).run Tryz.prog w = .ok (.func fn first cap) w := fun _ _ _ _ => rfl
  obtain ⟨A, cap, rfl, hv⟩ := hv.val
  have HV := Lib.hid hv
  have HF := Lib.hid hf
  clear hv hf
  go_enter Tryz.func259, Tryz.ntmps259
  go_upto_region 1 with fail
  obtain ⟨W, hW⟩ : ∃ W : World, W = ((w.alloc (.cells #[.func (.func F) #[] #[.pointer (some pa), .pointer (some pb)]] 326)).alloc (.cells #[.slice A ls.length cap] 357)) := ⟨_, rfl⟩
  rw [← hW]
  have hbw : Below w.heap.size w W := by rw [hW]; exact Below.then (alloc_below _ _) (alloc_below _ _)
  have k1 : W.heap[w.heap.size]? = some (.cells #[.func (.func F) #[] #[.pointer (some pa), .pointer (some pb)]] 326 (0, 0)) := by
    rw [hW]; exact (blk_old _ _ (by simp)).trans (blk_last _ _)
  have k2 : W.heap[w.heap.size + 1]? = some (.cells #[.slice A ls.length cap] 357 (0, 0)) := by
    rw [hW]
    have := blk_last (w.alloc (.cells #[.func (.func F) #[] #[.pointer (some pa), .pointer (some pb)]] 326)) (.cells #[.slice A ls.length cap] 357)
    simpa using this
  have HBW := Lib.hid hbw
  have HK := Lib.hid (And.intro k1 k2)
  clear hW hbw k1 k2
  go_wp2_with fail
  obtain ⟨R, hR⟩ : ∃ R, madeV f ls = R := ⟨_, rfl⟩
  have HR := Lib.hid hR
  have hx : Below W.heap.size W ((W.alloc (.cells #[.slice none 0 0] 28)).alloc (.cells #[.int .i64 0] 71)) := Below.then (alloc_below _ _) (alloc_below _ _)
  have hxs : (W.alloc (.cells #[.slice none 0 0] 28)).heap.size = W.heap.size + 1 := by simp
  have x3 : ((W.alloc (.cells #[.slice none 0 0] 28)).alloc (.cells #[.int .i64 0] 71)).heap[W.heap.size]? = some (.cells #[.slice none 0 0] 28 (0, 0)) := (blk_old _ _ (by simp)).trans (blk_last _ _)
  have h := made1_calls F pa pb f (w.heap.size + 1) w.heap.size _ _ (.slice A ls.length cap) ls W _ hF (HF.out.below HBW.out) (HV.out.mono (vw_below HBW.out)) hl HK.out.2 HK.out.1 hx x3
  rw [hR] at h
  have HXB := Lib.hid hx
  clear hR hx x3
  refine (try_calls _ _ _ (fun n w2 => n = R.2 ∧ But W.heap.size ((W.alloc (.cells #[.slice none 0 0] 28)).alloc (.cells #[.int .i64 0] 71)) w2 ∧ (n = 0 → ∃ v, w2.heap[W.heap.size]? = some (.cells #[v] 28 (0, 0)) ∧ Kd.amt.S (nx w2 (W.heap.size + 2) none) v R.1)) (callFunc_made1 _) (h.mono ?_)).mono ?_
  · rintro e w2 ⟨hb, h⟩
    refine ⟨hb.block _ (by simp) (by simp), ?_⟩
    rcases h with ⟨h0, rfl, hv⟩ | ⟨h0, rfl⟩
    · exact .inl ⟨_, rfl, h0.symm, hb, fun _ => by simpa using hv⟩
    · exact .inr ⟨R.2, h0, rfl, rfl, hb, fun h => absurd h h0⟩
  clear h
  rintro e w' ⟨n, w2, rfl, ⟨rfl, hb, hv⟩, hb3⟩
  have hW2 : Below W.heap.size W w2 := HXB.out.trans (hb.below (Nat.le_refl _) (by simp; omega))
  have hsz : W.heap.size + 1 < w2.heap.size := by have := hb.size; simp at this; omega
  have HB4 : Hid (Below w.heap.size w w') := Below.then HBW.out (hW2.trans (hb3.below (by omega) (by omega)))
  have HV2 := Lib.hid hv
  have HB3 := Lib.hid hb3
  clear hb hb3 hW2 hv
  by_cases h0 : R.2 = 0
  · obtain ⟨v, hv1, hv2⟩ := HV2.out h0
    have hr : madeV f ls = (R.1, 0) := by rw [HR.out, ← h0]
    have hwz : w.heap.size ≤ W.heap.size := HBW.out.size
    have hv3 : Kd.amt.S (nx w' w.heap.size none) v R.1 := Kd.S.mono (fun k o hk => by
      obtain ⟨q1, -, q2⟩ := nx_eq hk
      exact nx_mk (by omega) (by simp) ((HB3.out.block k (blk_lt q2) (by omega)).trans q2)) hv2
    obtain ⟨A2, c2, rfl, hv3⟩ := hv3.val
    have v4 := (HB3.out.block _ (blk_lt hv1) (by omega)).trans hv1
    obtain ⟨x, xf⟩ := blk_all v4
    have HZ := Lib.hid hr
    have HS := Lib.hid hv3
    rw [h0]
    clear hv1 hv2 v4 hr hv3 HV2 HB3 h0
    go_wp2
    go_ret2
    exact vecn_some HZ.out HS.out HB4.out
  · have t1 : (R.2 == 0) = false := by simp [h0]
    obtain ⟨n, hn⟩ : ∃ n, R.2 = n := ⟨_, rfl⟩
    rw [hn] at t1
    have hr : madeV f ls = ([], n) := madeV_bad (by rw [HR.out, hn]) (fun e => h0 (hn.trans e))
    have HZ := Lib.hid hr
    rw [hn]
    clear hr HV2 HB3 h0 hn
    go_wp2
    go_ret2
    exact vecn_none HZ.out HB4.out
end Go.Proofs.YtnmhicgbdalniaaGreatDoor
namespace Go.Proofs.YtnmhicgbdalniaaGreatDoor
open Go.RowKit Go.Sort Go.Shelf

/-! What is added, and what is taken away, name by name. -/
def TwoDone (r : Int × Int) (w : World) (e : Ending) (w' : World) : Prop := e = .returned (.tuple #[.int .i64 r.1, .int .i64 r.2]) ∧ Below w.heap.size w w'
set_option maxHeartbeats 8000000 in
set_option maxRecDepth 100000 in
theorem sub1_calls (a b : List Amt) (va vb : Value) (pa pb : Nat) (x : ByteArray) (w : World) (ha : Kd.amt.S (vw w []) va a) (hb : Kd.amt.S (vw w []) vb b) (ka : w.heap[pa]? = some (.cells #[va] 28 (0, 0))) (kb : w.heap[pb]? = some (.cells #[vb] 28 (0, 0))) :
    Calls Tryz.prog 260 #[.string x, .pointer (some ⟨pa, 0, none⟩), .pointer (some ⟨pb, 0, none⟩)] w (TwoDone (subN (getA a x) (getA b x)) w) := by
  have ga := (getA_ok (amt_ok ha) x).2
  have gb := (getA_ok (amt_ok hb) x).2
  obtain ⟨A, c, rfl, ha⟩ := ha.val
  obtain ⟨B, d, rfl, hb⟩ := hb.val
  have HA := Lib.hid ha
  have HB := Lib.hid hb
  have HG := Lib.hid (And.intro ga gb)
  have la := blk_lt ka
  have lb := blk_lt kb
  obtain ⟨z, zf⟩ := blk_all ka
  obtain ⟨y, yf⟩ := blk_all kb
  have HW : Hid (Below w.heap.size w w.drew) := drew_below _
  have HL : Hid (pa < w.heap.size ∧ pb < w.heap.size) := And.intro la lb
  clear ha hb ka kb ga gb la lb zf yf
  go_enter Tryz.func260, Tryz.ntmps260
  go_upto_region 1 with fail
  go_region_held3 (fun w' => (∀ j, w'.cell? ⟨pa, j, none⟩ = #[.slice A a.length c][j]?) ∧ ∀ j, w'.cell? ⟨pb, j, none⟩ = #[.slice B b.length d][j]?)
    (first | with_reducible exact ⟨z, y⟩ | go_keep)
    (first
    | (go_at_call 128; (with_reducible refine (Get2_calls (.slice A a.length c) a x _ (HA.out.mono (vw_below HW.out))).mono ?_); rintro e w1 ⟨rfl, hb⟩; have z1 : ∀ j, w1.cell? ⟨pa, j, none⟩ = #[.slice A a.length c][j]? := (fun j => (hb.cell (p := ⟨pa, j, none⟩) (Nat.lt_of_lt_of_le HL.out.1 HW.out.size)).trans (z j)); have y1 : ∀ j, w1.cell? ⟨pb, j, none⟩ = #[.slice B b.length d][j]? := (fun j => (hb.cell (p := ⟨pb, j, none⟩) (Nat.lt_of_lt_of_le HL.out.2 HW.out.size)).trans (y j)); replace HW := Lib.hid (Below.then HW.out hb); clear z y hb; have z := z1; have y := y1; clear z1 y1)
    | (go_at_call 128; (with_reducible refine (Get2_calls (.slice B b.length d) b x _ (HB.out.mono (vw_below HW.out))).mono ?_); rintro e w1 ⟨rfl, hb⟩; have z1 : ∀ j, w1.cell? ⟨pa, j, none⟩ = #[.slice A a.length c][j]? := (fun j => (hb.cell (p := ⟨pa, j, none⟩) (Nat.lt_of_lt_of_le HL.out.1 HW.out.size)).trans (z j)); have y1 : ∀ j, w1.cell? ⟨pb, j, none⟩ = #[.slice B b.length d][j]? := (fun j => (hb.cell (p := ⟨pb, j, none⟩) (Nat.lt_of_lt_of_le HL.out.2 HW.out.size)).trans (y j)); replace HW := Lib.hid (Below.then HW.out hb); clear z y hb; have z := z1; have y := y1; clear z1 y1)
    | (go_at_call 261; refine (qsub_calls _ _ _ HG.out.1 HG.out.2).mono ?_; rintro e w1 ⟨rfl, rfl⟩))
  go_wp2
  go_ret2
  rw [subV_subN]
  exact ⟨rfl, HW.out⟩
set_option maxHeartbeats 8000000 in
set_option maxRecDepth 100000 in
theorem add1_calls (a b : List Amt) (va vb : Value) (pa pb : Nat) (x : ByteArray) (w : World) (ha : Kd.amt.S (vw w []) va a) (hb : Kd.amt.S (vw w []) vb b) (ka : w.heap[pa]? = some (.cells #[va] 28 (0, 0))) (kb : w.heap[pb]? = some (.cells #[vb] 28 (0, 0))) :
    Calls Tryz.prog 307 #[.string x, .pointer (some ⟨pa, 0, none⟩), .pointer (some ⟨pb, 0, none⟩)] w (TwoDone (addN (getA a x) (getA b x)) w) := by
  have ga := (getA_ok (amt_ok ha) x).2
  have gb := (getA_ok (amt_ok hb) x).2
  obtain ⟨A, c, rfl, ha⟩ := ha.val
  obtain ⟨B, d, rfl, hb⟩ := hb.val
  have HA := Lib.hid ha
  have HB := Lib.hid hb
  have HG := Lib.hid (And.intro ga gb)
  have la := blk_lt ka
  have lb := blk_lt kb
  obtain ⟨z, zf⟩ := blk_all ka
  obtain ⟨y, yf⟩ := blk_all kb
  have HW : Hid (Below w.heap.size w w.drew) := drew_below _
  have HL : Hid (pa < w.heap.size ∧ pb < w.heap.size) := And.intro la lb
  clear ha hb ka kb ga gb la lb zf yf
  go_enter Tryz.func307, Tryz.ntmps307
  go_upto_region 1 with fail
  go_region_held3 (fun w' => (∀ j, w'.cell? ⟨pa, j, none⟩ = #[.slice A a.length c][j]?) ∧ ∀ j, w'.cell? ⟨pb, j, none⟩ = #[.slice B b.length d][j]?)
    (first | with_reducible exact ⟨z, y⟩ | go_keep)
    (first
    | (go_at_call 128; (with_reducible refine (Get2_calls (.slice A a.length c) a x _ (HA.out.mono (vw_below HW.out))).mono ?_); rintro e w1 ⟨rfl, hb⟩; have z1 : ∀ j, w1.cell? ⟨pa, j, none⟩ = #[.slice A a.length c][j]? := (fun j => (hb.cell (p := ⟨pa, j, none⟩) (Nat.lt_of_lt_of_le HL.out.1 HW.out.size)).trans (z j)); have y1 : ∀ j, w1.cell? ⟨pb, j, none⟩ = #[.slice B b.length d][j]? := (fun j => (hb.cell (p := ⟨pb, j, none⟩) (Nat.lt_of_lt_of_le HL.out.2 HW.out.size)).trans (y j)); replace HW := Lib.hid (Below.then HW.out hb); clear z y hb; have z := z1; have y := y1; clear z1 y1)
    | (go_at_call 128; (with_reducible refine (Get2_calls (.slice B b.length d) b x _ (HB.out.mono (vw_below HW.out))).mono ?_); rintro e w1 ⟨rfl, hb⟩; have z1 : ∀ j, w1.cell? ⟨pa, j, none⟩ = #[.slice A a.length c][j]? := (fun j => (hb.cell (p := ⟨pa, j, none⟩) (Nat.lt_of_lt_of_le HL.out.1 HW.out.size)).trans (z j)); have y1 : ∀ j, w1.cell? ⟨pb, j, none⟩ = #[.slice B b.length d][j]? := (fun j => (hb.cell (p := ⟨pb, j, none⟩) (Nat.lt_of_lt_of_le HL.out.2 HW.out.size)).trans (y j)); replace HW := Lib.hid (Below.then HW.out hb); clear z y hb; have z := z1; have y := y1; clear z1 y1)
    | (go_at_call 308; refine (qadd_calls _ _ _ HG.out.1 HG.out.2).mono ?_; rintro e w1 ⟨rfl, rfl⟩))
  go_wp2
  go_ret2
  rw [addV_addN]
  exact ⟨rfl, HW.out⟩
end Go.Proofs.YtnmhicgbdalniaaGreatDoor
namespace Go.Proofs.YtnmhicgbdalniaaGreatDoor
open Go.RowKit Go.Sort Go.Shelf

theorem subN_ok {a b : Int} (ha : i64 a) (hb : i64 b) : i64 (subN a b).1 := by
  unfold subN
  obtain ⟨a1, a2⟩ := ha
  obtain ⟨b1, b2⟩ := hb
  unfold i64
  split
  · simp
  · split
    · simp
    · split
      · simp
      · simp only; omega
theorem chkL_two (a b : List Amt) : chkL [a, b] = if checkVec a ≠ 0 then checkVec a else if checkVec b ≠ 0 then checkVec b else 0 := rfl
theorem two_len {a b : List Amt} (h : chkL [a, b] = 0) : [a, b].flatten.length ≤ 1000 := by
  rw [chkL_two] at h
  by_cases h1 : checkVec a = 0
  · by_cases h2 : checkVec b = 0
    · have k1 := (manyV_zero h1).1
      have k2 := (manyV_zero h2).1
      simp
      omega
    · rw [if_neg (by simpa using h1), if_pos h2] at h
      exact absurd h h2
  · rw [if_pos h1] at h
    exact absurd h h1
theorem two_slices {w : World} {g : Nat} {T : TypeId} {va vb : Value} {a b : List Amt} (h : w.heap[g]? = some (.cells #[va, vb] T (0, 0))) (ha : Kd.amt.S (vw w []) va a) (hb : Kd.amt.S (vw w []) vb b) : (Kd.slice Kd.amt).S (vw w []) (.slice (some ⟨g, 0, none⟩) 2 2) [a, b] := by
  refine ⟨some ⟨g, 0, none⟩, 2, rfl, by simp, by simp, by simp, fun _ => ⟨g, 0, rfl, fun j x hx => ?_⟩⟩
  match j, hx with
  | 0, hx =>
    injection hx with hx
    subst hx
    refine ⟨[va], ⟨va, rfl, ha⟩, fun i u hu => ?_⟩
    match i, hu with
    | 0, hu => unfold View.cell?; rw [vw_mk (by simp) h]; simpa using hu
  | 1, hx =>
    injection hx with hx
    subst hx
    refine ⟨[vb], ⟨vb, rfl, hb⟩, fun i u hu => ?_⟩
    match i, hu with
    | 0, hu => unfold View.cell?; rw [vw_mk (by simp) h]; simpa [Kd.slice] using hu
theorem callFunc_sub1 (args : Array Value) (w : World) : (callFunc 260 args).run Tryz.prog w = .ok (.enter 260 args) w := by
  simp [go_sem]
set_option maxHeartbeats 8000000 in
set_option maxRecDepth 100000 in
theorem SubV_calls (va vb : Value) (a b : List Amt) (w : World) (ha : Kd.amt.S (vw w []) va a) (hb : Kd.amt.S (vw w []) vb b) :
    Calls Tryz.prog 180 #[va, vb] w (VecNew (madeV (fun x => subN (getA a x) (getA b x)) [a, b]) w) := by
  have hmf : ∀ (fn : Fn) (first cap : Array Value) (w : World), (Instr.makeFunc fn first cap).run Tryz.prog w = .ok (.func fn first cap) w := fun _ _ _ _ => rfl
  have hga := getA_ok (amt_ok ha)
  have hgb := getA_ok (amt_ok hb)
  have HO := Lib.hid (And.intro hga hgb)
  obtain ⟨A, c, rfl, ha⟩ := ha.val
  obtain ⟨B, d, rfl, hb⟩ := hb.val
  have HA := Lib.hid ha
  have HB := Lib.hid hb
  clear ha hb hga hgb
  go_enter Tryz.func180, Tryz.ntmps180
  go_upto_region 1 with fail
  obtain ⟨W, hW⟩ : ∃ W : World, W = ((w.alloc (.cells #[.slice A a.length c] 28)).alloc (.cells #[.slice B b.length d] 28)) := ⟨_, rfl⟩
  rw [← hW]
  have hbw : Below w.heap.size w W := by rw [hW]; exact Below.then (alloc_below _ _) (alloc_below _ _)
  have k1 : W.heap[w.heap.size]? = some (.cells #[.slice A a.length c] 28 (0, 0)) := by
    rw [hW]; exact (blk_old _ _ (by simp)).trans (blk_last _ _)
  have k2 : W.heap[w.heap.size + 1]? = some (.cells #[.slice B b.length d] 28 (0, 0)) := by
    rw [hW]
    have := blk_last (w.alloc (.cells #[.slice A a.length c] 28)) (.cells #[.slice B b.length d] 28)
    simpa using this
  have HBW := Lib.hid hbw
  have HK := Lib.hid (And.intro k1 k2)
  obtain ⟨z, zf⟩ := blk_all k1
  obtain ⟨y, yf⟩ := blk_all k2
  clear hW hbw k1 k2
  go_wp2_with fail
  have hb1 := alloc_below W (.cells #[.slice A a.length c, .slice B b.length d] 28)
  have hx := blk_last W (.cells #[.slice A a.length c, .slice B b.length d] 28)
  generalize W.alloc (.cells #[.slice A a.length c, .slice B b.length d] 28) = W1 at hb1 hx ⊢
  have hs := two_slices hx (HA.out.mono (vw_below (Below.then HBW.out hb1))) (HB.out.mono (vw_below (Below.then HBW.out hb1)))
  have q1 := (hb1.block _ (blk_lt HK.out.1)).trans HK.out.1
  have q2 := (hb1.block _ (blk_lt HK.out.2)).trans HK.out.2
  have hfn : AmtFn 260 [.pointer (some ⟨w.heap.size, 0, none⟩), .pointer (some ⟨w.heap.size + 1, 0, none⟩)] (fun x => subN (getA a x) (getA b x)) W1 :=
    ⟨fun s => subN_ok (HO.out.1 s) (HO.out.2 s), fun W2 s hW2 hs => sub1_calls a b _ _ _ _ s W2 (HA.out.mono (vw_below (Below.then HBW.out (Below.then hb1 hW2)))) (HB.out.mono (vw_below (Below.then HBW.out (Below.then hb1 hW2)))) ((hW2.block _ (blk_lt q1)).trans q1) ((hW2.block _ (blk_lt q2)).trans q2)⟩
  refine (made_calls 260 _ _ (fun x => subN (getA a x) (getA b x)) _ [a, b] W1 (fun s W => callFunc_sub1 _ W) hfn hs two_len).mono ?_
  rintro e w' ⟨A2, c2, rfl, hv, hb2⟩
  have HV := Lib.hid (hv.mono (nx_new (own := none) (own' := none) (Below.then HBW.out hb1).size (fun _ h => by cases h) rfl))
  have HB2 := Lib.hid (Below.then HBW.out (Below.then hb1 hb2))
  clear hv hb2 hb1 hx hs q1 q2 hfn z zf y yf
  go_wp2
  go_ret2
  exact ⟨_, _, rfl, HV.out, HB2.out⟩
theorem callFunc_add1 (args : Array Value) (w : World) : (callFunc 307 args).run Tryz.prog w = .ok (.enter 307 args) w := by
  simp [go_sem]
set_option maxHeartbeats 8000000 in
set_option maxRecDepth 100000 in
theorem AddV_calls (va vb : Value) (a b : List Amt) (w : World) (ha : Kd.amt.S (vw w []) va a) (hb : Kd.amt.S (vw w []) vb b) :
    Calls Tryz.prog 269 #[va, vb] w (VecNew (madeV (fun x => addN (getA a x) (getA b x)) [a, b]) w) := by
  have hmf : ∀ (fn : Fn) (first cap : Array Value) (w : World), (Instr.makeFunc fn first cap).run Tryz.prog w = .ok (.func fn first cap) w := fun _ _ _ _ => rfl
  have hga := getA_ok (amt_ok ha)
  have hgb := getA_ok (amt_ok hb)
  have HO := Lib.hid (And.intro hga hgb)
  obtain ⟨A, c, rfl, ha⟩ := ha.val
  obtain ⟨B, d, rfl, hb⟩ := hb.val
  have HA := Lib.hid ha
  have HB := Lib.hid hb
  clear ha hb hga hgb
  go_enter Tryz.func269, Tryz.ntmps269
  go_upto_region 1 with fail
  obtain ⟨W, hW⟩ : ∃ W : World, W = ((w.alloc (.cells #[.slice A a.length c] 28)).alloc (.cells #[.slice B b.length d] 28)) := ⟨_, rfl⟩
  rw [← hW]
  have hbw : Below w.heap.size w W := by rw [hW]; exact Below.then (alloc_below _ _) (alloc_below _ _)
  have k1 : W.heap[w.heap.size]? = some (.cells #[.slice A a.length c] 28 (0, 0)) := by
    rw [hW]; exact (blk_old _ _ (by simp)).trans (blk_last _ _)
  have k2 : W.heap[w.heap.size + 1]? = some (.cells #[.slice B b.length d] 28 (0, 0)) := by
    rw [hW]
    have := blk_last (w.alloc (.cells #[.slice A a.length c] 28)) (.cells #[.slice B b.length d] 28)
    simpa using this
  have HBW := Lib.hid hbw
  have HK := Lib.hid (And.intro k1 k2)
  obtain ⟨z, zf⟩ := blk_all k1
  obtain ⟨y, yf⟩ := blk_all k2
  clear hW hbw k1 k2
  go_wp2_with fail
  have hb1 := alloc_below W (.cells #[.slice A a.length c, .slice B b.length d] 28)
  have hx := blk_last W (.cells #[.slice A a.length c, .slice B b.length d] 28)
  generalize W.alloc (.cells #[.slice A a.length c, .slice B b.length d] 28) = W1 at hb1 hx ⊢
  have hs := two_slices hx (HA.out.mono (vw_below (Below.then HBW.out hb1))) (HB.out.mono (vw_below (Below.then HBW.out hb1)))
  have q1 := (hb1.block _ (blk_lt HK.out.1)).trans HK.out.1
  have q2 := (hb1.block _ (blk_lt HK.out.2)).trans HK.out.2
  have hfn : AmtFn 307 [.pointer (some ⟨w.heap.size, 0, none⟩), .pointer (some ⟨w.heap.size + 1, 0, none⟩)] (fun x => addN (getA a x) (getA b x)) W1 :=
    ⟨fun s => addN_ok (HO.out.1 s) (HO.out.2 s), fun W2 s hW2 hs => add1_calls a b _ _ _ _ s W2 (HA.out.mono (vw_below (Below.then HBW.out (Below.then hb1 hW2)))) (HB.out.mono (vw_below (Below.then HBW.out (Below.then hb1 hW2)))) ((hW2.block _ (blk_lt q1)).trans q1) ((hW2.block _ (blk_lt q2)).trans q2)⟩
  refine (made_calls 307 _ _ (fun x => addN (getA a x) (getA b x)) _ [a, b] W1 (fun s W => callFunc_add1 _ W) hfn hs two_len).mono ?_
  rintro e w' ⟨A2, c2, rfl, hv, hb2⟩
  have HV := Lib.hid (hv.mono (nx_new (own := none) (own' := none) (Below.then HBW.out hb1).size (fun _ h => by cases h) rfl))
  have HB2 := Lib.hid (Below.then HBW.out (Below.then hb1 hb2))
  clear hv hb2 hb1 hx hs q1 q2 hfn z zf y yf
  go_wp2
  go_ret2
  exact ⟨_, _, rfl, HV.out, HB2.out⟩
end Go.Proofs.YtnmhicgbdalniaaGreatDoor
namespace Go.Proofs.YtnmhicgbdalniaaGreatDoor
open Go.RowKit

/-! made's vectors are those of the document. -/
theorem lt_bs {a b : ByteArray} : ltS a b = true ↔ bs a < bs b := by
  unfold ltS
  exact decide_eq_true_iff
abbrev Up (a : List Amt) : Prop := a.Pairwise (fun x y => ltS x.name y.name = true)
theorem up_rises {a : List Amt} (h : Up a) : Rises ((a.map (·.name)).map bs) :=
  List.pairwise_map.2 (List.pairwise_map.2 (h.imp fun k => lt_bs.1 k))
theorem vec_up {a : List Amt} (h : checkVec a = 0) : Up a := (rowsV_zero (manyV_zero h).2).2.1
theorem namesV_has : ∀ (a b : List Amt) (x : ByteArray), (x ∈ a.map (·.name) ∨ x ∈ b.map (·.name)) → x ∈ namesV a b
  | [], b, x, h => by rw [namesV_nil_l]; exact h.resolve_left (by simp)
  | a :: r, [], x, h => by rw [namesV_nil_r]; exact h.resolve_right (by simp)
  | a :: r, b :: t, x, h => by
    have h1 := namesV_has r (b :: t) x
    have h2 := namesV_has (a :: r) t x
    have h3 := namesV_has r t x
    rw [List.map_cons, List.mem_cons, List.map_cons, List.mem_cons] at h
    rw [List.map_cons, List.mem_cons] at h1 h2
    rw [namesV]
    split
    · rw [List.mem_cons]
      rcases h with (h | h) | h
      · exact .inl h
      · exact .inr (h1 (.inl h))
      · exact .inr (h1 (.inr h))
    · split
      · rw [List.mem_cons]
        rcases h with h | (h | h)
        · exact .inr (h2 (.inl h))
        · exact .inl h
        · exact .inr (h2 (.inr h))
      · rename_i q1 q2
        have he : a.name = b.name := by
          have k1 : ¬ bs a.name < bs b.name := fun h => q1 (lt_bs.2 h)
          have k2 : ¬ bs b.name < bs a.name := fun h => q2 (lt_bs.2 h)
          exact bs_inj (Std.le_antisymm (Std.not_lt.1 k2) (Std.not_lt.1 k1))
        rw [List.mem_cons]
        rcases h with (h | h) | (h | h)
        · exact .inl h
        · exact .inr (h3 (.inl h))
        · exact .inl (h.trans he.symm)
        · exact .inr (h3 (.inr h))
termination_by a b => a.length + b.length
theorem namesV_up : ∀ (a b : List Amt), Up a → Up b → Rises ((namesV a b).map bs)
  | [], b, _, hb => by rw [namesV_nil_l]; exact up_rises hb
  | a :: r, [], ha, _ => by rw [namesV_nil_r]; exact up_rises ha
  | a :: r, b :: t, ha, hb => by
    obtain ⟨a1, a2⟩ := List.pairwise_cons.1 ha
    obtain ⟨b1, b2⟩ := List.pairwise_cons.1 hb
    have h1 := namesV_up r (b :: t) a2 hb
    have h2 := namesV_up (a :: r) t ha b2
    have h3 := namesV_up r t a2 b2
    have ma : ∀ x, x ∈ r.map (·.name) → ltS a.name x = true := fun x hx => by
      obtain ⟨y, hy, rfl⟩ := List.mem_map.1 hx
      exact a1 y hy
    have mb : ∀ x, x ∈ t.map (·.name) → ltS b.name x = true := fun x hx => by
      obtain ⟨y, hy, rfl⟩ := List.mem_map.1 hx
      exact b1 y hy
    rw [namesV]
    split
    · rename_i q
      refine List.pairwise_cons.2 ⟨fun y hy => ?_, h1⟩
      obtain ⟨z, hz, rfl⟩ := List.mem_map.1 hy
      rcases namesV_mem r (b :: t) z hz with k | k
      · exact lt_bs.1 (ma z k)
      · rw [List.map_cons, List.mem_cons] at k
        rcases k with k | k
        · subst k; exact lt_bs.1 q
        · exact lt_bs.1 (ltS_trans q (mb z k))
    · split
      · rename_i q
        refine List.pairwise_cons.2 ⟨fun y hy => ?_, h2⟩
        obtain ⟨z, hz, rfl⟩ := List.mem_map.1 hy
        rcases namesV_mem (a :: r) t z hz with k | k
        · rw [List.map_cons, List.mem_cons] at k
          rcases k with k | k
          · subst k; exact lt_bs.1 q
          · exact lt_bs.1 (ltS_trans q (ma z k))
        · exact lt_bs.1 (mb z k)
      · rename_i q1 q2
        have he : a.name = b.name := by
          have k1 : ¬ bs a.name < bs b.name := fun h => q1 (lt_bs.2 h)
          have k2 : ¬ bs b.name < bs a.name := fun h => q2 (lt_bs.2 h)
          exact bs_inj (Std.le_antisymm (Std.not_lt.1 k2) (Std.not_lt.1 k1))
        refine List.pairwise_cons.2 ⟨fun y hy => ?_, h3⟩
        obtain ⟨z, hz, rfl⟩ := List.mem_map.1 hy
        rcases namesV_mem r t z hz with k | k
        · exact lt_bs.1 (ma z k)
        · exact lt_bs.1 (he ▸ mb z k)
termination_by a b => a.length + b.length
theorem namesL_two {a b : List Amt} (ha : Up a) (hb : Up b) : namesL [a, b] = namesV a b := by
  have h : insAll ((nmsL [a, b]).map bs) = (namesV a b).map bs := by
    refine rises_eq _ _ (insAll_rises _) (namesV_up a b ha hb) fun x => ?_
    rw [insAll_mem]
    have hn : nmsL [a, b] = a.map (·.name) ++ b.map (·.name) := by simp [nmsL]
    rw [hn]
    refine ⟨fun h => ?_, fun h => ?_⟩
    · obtain ⟨y, hy, rfl⟩ := List.mem_map.1 h
      exact List.mem_map_of_mem (namesV_has a b y (List.mem_append.1 hy))
    · obtain ⟨y, hy, rfl⟩ := List.mem_map.1 h
      exact List.mem_map_of_mem (List.mem_append.2 (namesV_mem a b y hy))
  unfold namesL
  rw [h, List.map_map]
  exact List.map_id' _
theorem madeL_sub (a b : List Amt) : ∀ (l : List ByteArray) (out : List Amt), madeL (fun x => subN (getA a x) (getA b x)) l out = subL a b l out
  | [], out => rfl
  | x :: r, out => by rw [madeL, subL, madeL_sub a b r]
theorem madeV_two (f : ByteArray → Int × Int) {a b : List Amt} : madeV f [a, b] = if checkVec a ≠ 0 then ([], checkVec a) else if checkVec b ≠ 0 then ([], checkVec b) else madeL f (namesV a b) [] := by
  unfold madeV
  rw [chkL_two]
  by_cases h1 : checkVec a ≠ 0
  · rw [if_pos h1, if_pos h1, if_pos h1]
  · by_cases h2 : checkVec b ≠ 0
    · rw [if_neg h1, if_pos h2, if_pos h2, if_neg h1, if_pos h2]
    · rw [if_neg h1, if_neg h2, if_neg (by simp), if_neg h1, if_neg h2, namesL_two (vec_up (Decidable.not_not.1 h1)) (vec_up (Decidable.not_not.1 h2))]
theorem made_sub (a b : List Amt) : madeV (fun x => subN (getA a x) (getA b x)) [a, b] = subVec a b := by
  rw [madeV_two, madeL_sub]; rfl
theorem vec_pos {a : List Amt} (h : checkVec a = 0) : ∀ x ∈ a, 0 < x.n := by
  intro x hx
  have := (rowsV_zero (manyV_zero h).2).1 x hx
  unfold amtV at this
  split at this
  · cases this
  · split at this
    · cases this
    · omega
theorem getA_pos : ∀ {a : List Amt}, (∀ x ∈ a, 0 < x.n) → ∀ k, 0 ≤ getA a k ∧ (k ∈ a.map (·.name) → 0 < getA a k)
  | [], _, k => ⟨Int.le_refl _, fun h => by simp at h⟩
  | x :: r, h, k => by
    obtain ⟨i1, i2⟩ := getA_pos (fun y hy => h y (List.mem_cons_of_mem _ hy)) k
    have hx := h x (List.mem_cons_self ..)
    unfold getA
    split
    · exact ⟨by omega, fun _ => hx⟩
    · rename_i hne
      refine ⟨i1, fun hk => i2 ?_⟩
      rw [List.map_cons, List.mem_cons] at hk
      exact hk.resolve_left fun e => hne e.symm
theorem madeL_add {a b : List Amt} (ha : ∀ x ∈ a, 0 < x.n) (hb : ∀ x ∈ b, 0 < x.n) : ∀ (l : List ByteArray) (out : List Amt), (∀ x ∈ l, x ∈ a.map (·.name) ∨ x ∈ b.map (·.name)) → madeL (fun x => addN (getA a x) (getA b x)) l out = addL a b l out
  | [], out, _ => rfl
  | x :: r, out, h => by
    rw [madeL, addL]
    by_cases h0 : (addN (getA a x) (getA b x)).2 ≠ 0
    · rw [if_pos h0, if_pos h0]
    · obtain ⟨a1, a2⟩ := getA_pos ha x
      obtain ⟨b1, b2⟩ := getA_pos hb x
      have hp : 0 < (addN (getA a x) (getA b x)).1 := by
        unfold addN at h0 ⊢
        rw [if_neg (by omega), if_neg (by omega)] at h0 ⊢
        split at h0
        · exact absurd (by simp) h0
        · rename_i q
          rw [if_neg q]
          show 0 < getA a x + getA b x
          rcases h x (List.mem_cons_self ..) with k | k
          · have := a2 k; omega
          · have := b2 k; omega
      rw [if_neg h0, if_neg h0, if_pos hp]
      exact madeL_add ha hb r _ fun y hy => h y (List.mem_cons_of_mem _ hy)
theorem made_add (a b : List Amt) : madeV (fun x => addN (getA a x) (getA b x)) [a, b] = addVec a b := by
  rw [madeV_two]
  unfold addVec
  by_cases h1 : checkVec a ≠ 0
  · rw [if_pos h1, if_pos h1]
  · by_cases h2 : checkVec b ≠ 0
    · rw [if_neg h1, if_pos h2, if_neg h1, if_pos h2]
    · rw [if_neg h1, if_neg h2, if_neg h1, if_neg h2]
      exact madeL_add (vec_pos (Decidable.not_not.1 h1)) (vec_pos (Decidable.not_not.1 h2)) _ _ fun x hx => namesV_mem a b x hx
theorem SubVec2_calls (va vb : Value) (a b : List Amt) (w : World) (ha : Kd.amt.S (vw w []) va a) (hb : Kd.amt.S (vw w []) vb b) :
    Calls Tryz.prog 180 #[va, vb] w (VecNew (subVec a b) w) := made_sub a b ▸ SubV_calls va vb a b w ha hb
theorem AddVec2_calls (va vb : Value) (a b : List Amt) (w : World) (ha : Kd.amt.S (vw w []) va a) (hb : Kd.amt.S (vw w []) vb b) :
    Calls Tryz.prog 269 #[va, vb] w (VecNew (addVec a b) w) := made_add a b ▸ AddV_calls va vb a b w ha hb
end Go.Proofs.YtnmhicgbdalniaaGreatDoor
namespace Go.Proofs.YtnmhicgbdalniaaGreatDoor
open Go.RowKit

/-! The pods on a node: the program's side. -/
def onP (name : ByteArray) (p : Pd) : Bool := decide (p.node = name) && !emptyB name
theorem onV_eq (s : St) (name : ByteArray) : onV s name = s.pods.filter (onP name) := rfl
theorem on_snoc (name : ByteArray) {l : List Pd} {k : Nat} (h : k < l.length) : (l.take (k + 1)).filter (onP name) = (l.take k).filter (onP name) ++ (if onP name l[k] = true then [l[k]] else []) := by
  rw [List.take_succ_eq_append_getElem h, List.filter_append]
  congr 1
  cases hp : onP name l[k] <;> simp [hp]
theorem on_le (name : ByteArray) (l : List Pd) (k : Nat) : ((l.take k).filter (onP name)).length ≤ k := Nat.le_trans (List.length_filter_le _ _) (by rw [List.length_take]; omega)
theorem own_ge {α : Type} {d : Kd α} {w : World} {base : Nat} {e : TypeId} {lo : Nat} {v : Value} {xs : List α} (h : d.Own w base e lo v xs) : ∀ q, v.ownBlock = some q → base ≤ q := fun q hq => by
  obtain ⟨_, hrow⟩ := h.row
  exact (hrow.lt q hq).1
def PodsDone (r : List Pd) (w : World) (e : Ending) (w' : World) : Prop := ∃ A c, e = .returned (.slice A r.length c) ∧ Kd.pod.S (vw w' []) (.slice A r.length c) r ∧ Below w.heap.size w w'
def PodsNew (r : List Pd) (w : World) (e : Ending) (w' : World) : Prop := ∃ A c, e = .returned (.slice A r.length c) ∧ Kd.pod.S (vw w' []) (.slice A r.length c) r ∧ Below w.heap.size w w' ∧ ∀ ad, A = some ad → w.heap.size ≤ ad.block
set_option maxHeartbeats 8000000 in
set_option maxRecDepth 100000 in
theorem On_new (vs : Value) (s : St) (name : ByteArray) (w : World) (hs : Kd.state.V (vw w []) vs s) (hpn : s.pods.length ≤ 1000) :
    Calls Tryz.prog 43 #[vs, .string name] w (PodsNew (onV s name) w) := by
  obtain ⟨i0, hi, hz0, hz1, hz2⟩ := info_parts info_pod
  obtain ⟨cs, rfl, hks⟩ := hs
  obtain ⟨A1, c1, A2, c2, A3, c3, rfl, -, s2, -⟩ := hks
  obtain ⟨-, f2, f2'⟩ := s2.form
  have S2 := Lib.hid s2
  clear s2
  go_enter Tryz.func43, Tryz.ntmps43
  go_upto_region 1 with fail
  have hbw := alloc_below w (.cells #[.slice A1 s.nodes.length c1, .slice A2 s.pods.length c2, .slice A3 s.budgets.length c3] 26)
  have hk := blk_last w (.cells #[.slice A1 s.nodes.length c1, .slice A2 s.pods.length c2, .slice A3 s.budgets.length c3] 26)
  generalize w.alloc (.cells #[.slice A1 s.nodes.length c1, .slice A2 s.pods.length c2, .slice A3 s.budgets.length c3] 26) = W at hbw hk ⊢
  obtain ⟨z, zf⟩ := blk_all hk
  have HBW := Lib.hid hbw
  clear hbw hk
  go_wp2
  clear z zf
  have e2 := empty_beq name
  go_loopw [5, 11] (fun o i wr => ∃ k : Nat, k ≤ s.pods.length ∧ i = .int .i64 k ∧ Hid (Kd.pod.Own wr w.heap.size 35 0 o ((s.pods.take k).filter (onP name))) ∧ Hid (Below w.heap.size w wr)) (fun _ i _ => s.pods.length - (intOf i).toNat)
  case atStart => exact ⟨0, Nat.zero_le _, rfl, Kd.Own.nil _ _ _ _ _, HBW.out⟩
  case round =>
    obtain ⟨k, hk, rfl, HO, HB⟩ := hrel
    by_cases hlt : k < s.pods.length
    · have hsn := on_snoc name hlt
      have hle := on_le name s.pods k
      obtain ⟨b, off, cs, rfl, hn, hc⟩ := S2.out.both HB.out k hlt
      obtain ⟨x, hx⟩ : ∃ x, s.pods[k] = x := ⟨_, rfl⟩
      obtain ⟨out, hout⟩ : ∃ out, (s.pods.take k).filter (onP name) = out := ⟨_, rfl⟩
      rw [hx] at hn hsn
      rw [hout] at hsn hle HO
      have HKX := Lib.hid hn
      obtain ⟨B1, d1, B2, d2, B3, d3, B4, d4, rfl, -⟩ := hn
      have HC : Hid (wr.rangeAt b (off + k * 11) _) := hc
      have HSN := Lib.hid hsn
      have e1 : (x.node.toList == name.toList) = decide (x.node = name) := by
        by_cases h : x.node = name
        · rw [str_beq h, decide_eq_true h]
        · rw [str_nbeq h, decide_eq_false h]
      have hon : onP name x = (decide (x.node = name) && !decide (name = ⟨#[]⟩)) := rfl
      obtain ⟨a, ha⟩ : ∃ a, decide (x.node = name) = a := ⟨_, rfl⟩
      obtain ⟨d, hd⟩ : ∃ d, decide (name = ⟨#[]⟩) = d := ⟨_, rfl⟩
      rw [ha] at e1 hon
      rw [hd] at e2 hon
      have HON := Lib.hid hon
      clear hc hsn hx hout ha hd hon
      have HB2 : Hid (Below w.heap.size w (wr.alloc (.cells #[.string x.name, .string x.owner, .int .i64 x.prio, .slice B1 x.need.length d1, .slice B2 x.labels.length d2, .slice B3 x.sel.length d3, .slice B4 x.tols.length d4, .string x.key, .int .i64 x.most, .string x.node, .bool x.hold] 35))) := Below.then HB.out (alloc_below _ _)
      have HO2 := Lib.hid (HO.out.below (alloc_below wr (.cells #[.string x.name, .string x.owner, .int .i64 x.prio, .slice B1 x.need.length d1, .slice B2 x.labels.length d2, .slice B3 x.sel.length d3, .slice B4 x.tols.length d4, .string x.key, .int .i64 x.most, .string x.node, .bool x.hold] 35)))
      have hy := blk_last wr (.cells #[.string x.name, .string x.owner, .int .i64 x.prio, .slice B1 x.need.length d1, .slice B2 x.labels.length d2, .slice B3 x.sel.length d3, .slice B4 x.tols.length d4, .string x.key, .int .i64 x.most, .string x.node, .bool x.hold] 35)
      go_upto_region 5 with (with_reducible refine wpList_load_mid rfl 35 _ rfl b (off + k * 11) rfl _ _ HC.out Tryz.underlying35 rfl (by kernel_rfl) ?_)
      generalize wr.alloc (.cells #[.string x.name, .string x.owner, .int .i64 x.prio, .slice B1 x.need.length d1, .slice B2 x.labels.length d2, .slice B3 x.sel.length d3, .slice B4 x.tols.length d4, .string x.key, .int .i64 x.most, .string x.node, .bool x.hold] 35) = W1 at HB2 HO2 hy ⊢
      obtain ⟨y, yf⟩ := blk_all hy
      clear hy HO HB HC
      have hsz := HB2.out.size
      cases a with
      | false =>
        have hn : onP name x = false := by rw [HON.out]; rfl
        have HS : Hid ((s.pods.take (k + 1)).filter (onP name) = out) := by
          show _ = _
          rw [HSN.out, hn]; simp
        clear hn
        go_wp2
        go_roundw
        case rel => exact ⟨k + 1, by omega, by go_num, by rw [HS.out]; exact HO2.out, HB2.out⟩
        case measure => simp [intOf]; omega
      | true =>
        cases d with
        | true =>
          have hn : onP name x = false := by rw [HON.out]; rfl
          have HS : Hid ((s.pods.take (k + 1)).filter (onP name) = out) := by
            show _ = _
            rw [HSN.out, hn]; simp
          clear hn
          go_wp2
          go_roundw
          case rel => exact ⟨k + 1, by omega, by go_num, by rw [HS.out]; exact HO2.out, HB2.out⟩
          case measure => simp [intOf]; omega
        | false =>
          have hn : onP name x = true := by rw [HON.out]; rfl
          have HS : Hid ((s.pods.take (k + 1)).filter (onP name) = out ++ [x]) := by
            show _ = _
            rw [HSN.out, hn]; simp
          clear hn
          have HRO := Lib.hid (own_ge HO2.out)
          go_wp2_with (at_builtin; go_must (refine wpList_own (d := Kd.pod) (x := x) _ w.heap.size 0 23 35 i0 _ 184 Tryz.underlying23 hi hz0 hz1 hz2 rfl (by decide) _ out _ (HO2.out.below (alloc_below _ _)) (Kd.pod.mono (vw_own (Below.then HB2.out (alloc_below _ _)) HRO.out) HKX.out) _ 1 35 (blk_last _ _) (by simp [Value.oneCell']) (by simp only [maxLen]; omega) (by omega) (by simp; omega) _ _ rfl rfl rfl rfl ?_))
          intro v2 w2 ho2 hg2
          have HO3 := Lib.hid ho2
          have HB3 : Hid (Below w.heap.size w w2) := grown_then HB2.out (alloc_below _ _) hg2 HRO.out
          clear ho2 hg2 y yf
          go_wp2
          go_roundw
          case rel => exact ⟨k + 1, by omega, by go_num, by rw [HS.out]; exact HO3.out, HB3.out⟩
          case measure => simp [intOf]; omega
    · obtain rfl : k = s.pods.length := by omega
      have ho := HO.out
      rw [List.take_length] at ho
      have hl := on_le name s.pods s.pods.length
      rw [List.take_length] at hl
      have hge := own_ge ho
      obtain ⟨G, gc, rfl, hS⟩ := (ho.S (Nat.zero_le _) (by omega)).val
      have HS := Lib.hid (Kd.S.mono (nx_vw0 _) hS)
      have HGE : Hid (∀ ad, G = some ad → w.heap.size ≤ ad.block) := fun ad had => hge ad.block (by rw [had]; rfl)
      clear ho hS HO hge
      go_wp2
      go_ret
      exact ⟨G, gc, rfl, HS.out, HB.out, HGE.out⟩
theorem On_calls (vs : Value) (s : St) (name : ByteArray) (w : World) (hs : Kd.state.V (vw w []) vs s) (hpn : s.pods.length ≤ 1000) :
    Calls Tryz.prog 43 #[vs, .string name] w (PodsDone (onV s name) w) :=
  (On_new vs s name w hs hpn).mono fun _ _ ⟨A, c, h1, h2, h3, _⟩ => ⟨A, c, h1, h2, h3⟩
end Go.Proofs.YtnmhicgbdalniaaGreatDoor
namespace Go.Proofs.YtnmhicgbdalniaaGreatDoor
open Go.RowKit

/-! What some pods need in all: the program's side. -/
theorem take_ok (v : Value) (w : World) : Calls Tryz.prog 155 #[v, .int .i64 0] w fun e w' => e = .returned v ∧ w' = w := by
  go_enter Tryz.func155, Tryz.ntmps155
  go_wp2_with fail
  refine (stop_ok _).mono ?_
  rintro e w' ⟨rfl, rfl⟩
  go_wp2
  go_ret
  exact ⟨rfl, rfl⟩
theorem take_bad (v : Value) (n : Int) (w : World) (h : n ≠ 0) : Calls Tryz.prog 155 #[v, .int .i64 n] w fun e w' => e = .panicked [{ v := stopV n, recovered := false }] ∧ w' = w := by
  have H := Lib.hid h
  clear h
  go_enter Tryz.func155, Tryz.ntmps155
  go_wp2_with fail
  refine (stop_bad n _ H.out).mono ?_
  rintro e w' ⟨rfl, rfl⟩
  exact ⟨rfl, rfl, rfl⟩
theorem used1_calls (x : Pd) (B1 B2 B3 B4 : Option Addr) (d1 d2 d3 d4 : Nat) (w : World) :
    Calls Tryz.prog 209 #[.agg #[.string x.name, .string x.owner, .int .i64 x.prio, .slice B1 x.need.length d1, .slice B2 x.labels.length d2, .slice B3 x.sel.length d3, .slice B4 x.tols.length d4, .string x.key, .int .i64 x.most, .string x.node, .bool x.hold]] w
      fun e w' => e = .returned (.slice B1 x.need.length d1) ∧ Below w.heap.size w w' := by
  go_enter Tryz.func209, Tryz.ntmps209
  go_upto_region 1 with fail
  have hb := alloc_below w (.cells #[.string x.name, .string x.owner, .int .i64 x.prio, .slice B1 x.need.length d1, .slice B2 x.labels.length d2, .slice B3 x.sel.length d3, .slice B4 x.tols.length d4, .string x.key, .int .i64 x.most, .string x.node, .bool x.hold] 35)
  have hy := blk_last w (.cells #[.string x.name, .string x.owner, .int .i64 x.prio, .slice B1 x.need.length d1, .slice B2 x.labels.length d2, .slice B3 x.sel.length d3, .slice B4 x.tols.length d4, .string x.key, .int .i64 x.most, .string x.node, .bool x.hold] 35)
  generalize w.alloc (.cells #[.string x.name, .string x.owner, .int .i64 x.prio, .slice B1 x.need.length d1, .slice B2 x.labels.length d2, .slice B3 x.sel.length d3, .slice B4 x.tols.length d4, .string x.key, .int .i64 x.most, .string x.node, .bool x.hold] 35) = W at hb hy ⊢
  obtain ⟨y, yf⟩ := blk_all hy
  have HB := Lib.hid hb
  clear hb hy
  go_wp2
  go_ret
  exact ⟨rfl, HB.out⟩
theorem callFunc_used1 (args : Array Value) (w : World) : (callFunc 209 args).run Tryz.prog w = .ok (.enter 209 args) w := by
  simp [go_sem]
theorem sumV_at {α : Type} (f : α → List Amt) (l : List α) (v : List Amt) {k : Nat} (h : k < l.length) : sumV f (l.drop k) v = if (addVec v (f l[k])).2 ≠ 0 then ([], (addVec v (f l[k])).2) else sumV f (l.drop (k + 1)) (addVec v (f l[k])).1 := by
  rw [List.drop_eq_getElem_cons h]; rfl
end Go.Proofs.YtnmhicgbdalniaaGreatDoor
namespace Go.Proofs.YtnmhicgbdalniaaGreatDoor
open Go.RowKit

theorem list8 {vs : List Value} (h : vs.length = [11, 12, 13, 14, 15, 16, 17, 18].length) : ∃ a b c d e f g i, vs = [a, b, c, d, e, f, g, i] := by
  match vs, h with
  | [a, b, c, d, e, f, g, i], _ => exact ⟨a, b, c, d, e, f, g, i, rfl⟩
set_option maxHeartbeats 8000000 in
set_option maxRecDepth 100000 in
theorem sum1_calls (bl bf : Nat) (T1 T2 : TypeId) (v : Value) (l : List Pd) (w0 w : World)
    (hv : Kd.pod.S (vw w0 []) v l)
    (h0 : w0.heap[bl]? = some (.cells #[v] T1 (0, 0))) (h1 : w0.heap[bf]? = some (.cells #[.func (.func 209) #[] #[]] T2 (0, 0)))
    (hw : Below w0.heap.size w0 w) (x0 : w.heap[w0.heap.size]? = some (.cells #[.slice none 0 0] 28 (0, 0))) :
    Calls Tryz.prog 268 #[.pointer (some ⟨bl, 0, none⟩), .pointer (some ⟨w0.heap.size, 0, none⟩), .pointer (some ⟨bf, 0, none⟩)] w (MadeTold w0.heap.size (sumV Pd.need l []) w) := by
  obtain ⟨A, cap, rfl, hv⟩ := hv.val
  obtain ⟨-, hf1, hf2⟩ := hv.form
  have HV := Lib.hid hv
  have H0 := Lib.hid (And.intro h0 h1)
  have HW := Lib.hid hw
  have HX0 := Lib.hid x0
  have l0 := blk_lt h0
  have l1 := blk_lt h1
  have lx := blk_lt x0
  have e0 := (hw.block _ l0).trans h0
  obtain ⟨z, zf⟩ := blk_all e0
  obtain ⟨R, hR⟩ : ∃ R, sumV Pd.need l [] = R := ⟨_, rfl⟩
  have HR0 := Lib.hid hR
  have HRR := Lib.hid hR
  clear hv h0 h1 hw x0 e0 hR
  go_enter Tryz.func268, Tryz.ntmps268
  go_wp2
  clear z zf
  go_loopw [7] (fun i wr => ∃ (k : Nat) (o : Option Addr) (oc : Nat) (acc : List Amt), k ≤ l.length ∧ i = .int .i64 k ∧ Hid (sumV Pd.need (l.drop k) acc = R) ∧ Hid (wr.heap[w0.heap.size]? = some (.cells #[.slice o acc.length oc] 28 (0, 0))) ∧ Hid (Kd.amt.S (nx wr w.heap.size none) (.slice o acc.length oc) acc) ∧ Hid (But w0.heap.size w wr)) (fun i _ => l.length - (intOf i).toNat)
  case atStart => exact ⟨0, none, 0, [], Nat.zero_le _, rfl, HR0.out, HX0.out, Kd.S.nil _ _, But.refl _ _⟩
  case round =>
    obtain ⟨k, o, oc, acc, hk, rfl, HR, HX, HS, HB⟩ := hrel
    clear HR0
    have HB0 := Lib.hid (HW.out.trans (HB.out.below (Nat.le_refl _) HW.out.size))
    have hr := HR.out
    by_cases hlt : k < l.length
    · rw [sumV_at _ l acc hlt] at hr
      obtain ⟨b, off, cs, rfl, hn, hc⟩ := HV.out.both HB0.out k hlt
      obtain ⟨x, hx⟩ : ∃ x, l[k] = x := ⟨_, rfl⟩
      rw [hx] at hn hr
      obtain ⟨B1, d1, B2, d2, B3, d3, B4, d4, rfl, -, hneed, -⟩ := hn
      have HC : Hid (wr.rangeAt b (off + k * 11) _) := hc
      have HN := Lib.hid hneed
      have HR2 := Lib.hid hr
      clear hc hx hneed hr
      have HB2 := Lib.hid (HB.out.then (alloc_below wr (.cells #[.string x.name, .string x.owner, .int .i64 x.prio, .slice B1 x.need.length d1, .slice B2 x.labels.length d2, .slice B3 x.sel.length d3, .slice B4 x.tols.length d4, .string x.key, .int .i64 x.most, .string x.node, .bool x.hold] 35)))
      have hx2 := (blk_old wr (.cells #[.string x.name, .string x.owner, .int .i64 x.prio, .slice B1 x.need.length d1, .slice B2 x.labels.length d2, .slice B3 x.sel.length d3, .slice B4 x.tols.length d4, .string x.key, .int .i64 x.most, .string x.node, .bool x.hold] 35) (blk_lt HX.out)).trans HX.out
      have hs2 := Kd.S.mono (nx_below (alloc_below wr (.cells #[.string x.name, .string x.owner, .int .i64 x.prio, .slice B1 x.need.length d1, .slice B2 x.labels.length d2, .slice B3 x.sel.length d3, .slice B4 x.tols.length d4, .string x.key, .int .i64 x.most, .string x.node, .bool x.hold] 35))) HS.out
      have hy := blk_last wr (.cells #[.string x.name, .string x.owner, .int .i64 x.prio, .slice B1 x.need.length d1, .slice B2 x.labels.length d2, .slice B3 x.sel.length d3, .slice B4 x.tols.length d4, .string x.key, .int .i64 x.most, .string x.node, .bool x.hold] 35)
      have hsz := HB.out.size
      have hne : wr.heap.size ≠ w0.heap.size := by omega
      go_upto_region 3 with (with_reducible refine wpList_load_mid rfl 35 _ rfl b (off + k * 11) rfl _ _ HC.out Tryz.underlying35 rfl (by kernel_rfl) ?_)
      generalize wr.alloc (.cells #[.string x.name, .string x.owner, .int .i64 x.prio, .slice B1 x.need.length d1, .slice B2 x.labels.length d2, .slice B3 x.sel.length d3, .slice B4 x.tols.length d4, .string x.key, .int .i64 x.most, .string x.node, .bool x.hold] 35) = W1 at HB2 hx2 hs2 hy ⊢
      have hyl := blk_lt hy
      obtain ⟨V, hV⟩ : ∃ V, addVec acc x.need = V := ⟨_, rfl⟩
      rw [hV] at HR2
      refine wp_region_slots [11, 12, 13, 14, 15, 16, 17, 18] (fun L vs W' => ∃ (s11 s12 s13 s14 s15 s16 s17 s18 : Value) (A' : Option Addr) (c' : Nat), vs = [s11, s12, s13, s14, s15, s16, s17, s18] ∧ But w0.heap.size w W' ∧ But w0.heap.size W1 W' ∧
        W'.heap[w0.heap.size]? = some (.cells #[if L 8 = true then .slice A' V.1.length c' else .slice o acc.length oc] 28 (0, 0)) ∧ Kd.amt.S (nx W' w.heap.size none) (.slice o acc.length oc) acc ∧
        (L 5 = true ∨ L 6 = true ∨ L 7 = true ∨ L 8 = true → L 4 = true) ∧ (L 4 = true → L 0 = true) ∧
        (L 0 = true → s11 = .slice o acc.length oc) ∧ (L 1 = true → s12 = .func (.func 209) #[] #[]) ∧ (L 2 = true → s13 = .agg #[.string x.name, .string x.owner, .int .i64 x.prio, .slice B1 x.need.length d1, .slice B2 x.labels.length d2, .slice B3 x.sel.length d3, .slice B4 x.tols.length d4, .string x.key, .int .i64 x.most, .string x.node, .bool x.hold]) ∧ (L 3 = true → s14 = .slice B1 x.need.length d1) ∧
        (L 4 = true → s15 = .tuple #[.slice A' V.1.length c', .int .i64 V.2] ∧ Kd.amt.S (nx W' w.heap.size none) (.slice A' V.1.length c') V.1) ∧ (L 5 = true → s16 = .slice A' V.1.length c') ∧ (L 6 = true → s17 = .int .i64 V.2) ∧ (L 7 = true → s18 = .slice A' V.1.length c' ∧ V.2 = 0)) (by kernel_rfl) (by kernel_rfl) ?start (And.intro ?o0 (And.intro ?o1 (And.intro ?o2 (And.intro ?o3 (And.intro ?o4 (And.intro ?o5 (And.intro ?o6 (And.intro ?o7 (And.intro ?o8 trivial))))))))) ?rest
      case start =>
        intro L vs hL hlen
        obtain ⟨s11, s12, s13, s14, s15, s16, s17, s18, rfl⟩ := list8 hlen
        have h0 := hL 0 (by simp)
        have h1 := hL 1 (by simp)
        have h2 := hL 2 (by simp)
        have h3 := hL 3 (by simp)
        have h4 := hL 4 (by simp)
        have h5 := hL 5 (by simp)
        have h6 := hL 6 (by simp)
        have h7 := hL 7 (by simp)
        have h8 := hL 8 (by simp)
        rw [h0, h1, h2, h3, h4, h5, h6, h7, h8]
        refine ⟨s11, s12, s13, s14, s15, s16, s17, s18, none, 0, rfl, HB2.out.then (drew_below _), (But.refl _ _).then (drew_below _), ?_, Kd.S.mono (nx_below (drew_below _)) hs2, (fun h => by simp at h), (fun h => by cases h), (fun h => by cases h), (fun h => by cases h), (fun h => by cases h), (fun h => by cases h), (fun h => by cases h), (fun h => by cases h), (fun h => by cases h), (fun h => by cases h)⟩
        rw [if_neg (by decide)]
        exact ((drew_below W1).block _ (blk_lt hx2)).trans hx2
      case o0 =>
        rintro L a' W' K ⟨vs, rfl, s11, s12, s13, s14, s15, s16, s17, s18, A', c', rfl, hb, hb1, hcell, hs, m4, m0, h11, h12, h13, h14, h15, h16, h17, h18⟩ hL hd hK
        have hx4 : L 4 = false := by
          cases hq : L 4 with
          | false => rfl
          | true => rw [m0 hq] at hL; cases hL
        have hx8 : L 8 = false := by
          cases hq : L 8 with
          | false => rfl
          | true => rw [m4 (.inr (.inr (.inr hq)))] at hx4; cases hx4
        have hc2 := hcell
        rw [hx8, if_neg (by decide)] at hc2
        have zz := (blk_all hc2).1
        simp only [putAll, Act.put, List.setIfInBounds_toArray, List.set_cons_zero, List.set_cons_succ]
        go_simp
        exact hK _ _ ⟨[.slice o acc.length oc, s12, s13, s14, s15, s16, s17, s18], (by simp only [putAll, Act.put, List.setIfInBounds_toArray, List.set_cons_zero, List.set_cons_succ]), _, s12, s13, s14, s15, s16, s17, s18, A', c', rfl, hb, hb1, hcell, hs, m4, fun _ => rfl, fun _ => rfl, h12, h13, h14, h15, h16, h17, h18⟩
      case o1 =>
        rintro L a' W' K ⟨vs, rfl, s11, s12, s13, s14, s15, s16, s17, s18, A', c', rfl, hb, hb1, hcell, hs, m4, m0, h11, h12, h13, h14, h15, h16, h17, h18⟩ hL hd hK
        have zz := (blk_all (((HW.out.trans (hb.below (Nat.le_refl _) HW.out.size)).block _ l1).trans H0.out.2)).1
        simp only [putAll, Act.put, List.setIfInBounds_toArray, List.set_cons_zero, List.set_cons_succ]
        go_simp
        exact hK _ _ ⟨[s11, .func (.func 209) #[] #[], s13, s14, s15, s16, s17, s18], (by simp only [putAll, Act.put, List.setIfInBounds_toArray, List.set_cons_zero, List.set_cons_succ]), s11, _, s13, s14, s15, s16, s17, s18, A', c', rfl, hb, hb1, hcell, hs, m4, m0, h11, fun _ => rfl, h13, h14, h15, h16, h17, h18⟩
      case o2 =>
        rintro L a' W' K ⟨vs, rfl, s11, s12, s13, s14, s15, s16, s17, s18, A', c', rfl, hb, hb1, hcell, hs, m4, m0, h11, h12, h13, h14, h15, h16, h17, h18⟩ hL hd hK
        simp only [putAll, Act.put, List.setIfInBounds_toArray, List.set_cons_zero, List.set_cons_succ]
        have zz : ∀ j, W'.cell? ⟨wr.heap.size, j, none⟩ = #[.string x.name, .string x.owner, .int .i64 x.prio, .slice B1 x.need.length d1, .slice B2 x.labels.length d2, .slice B3 x.sel.length d3, .slice B4 x.tols.length d4, .string x.key, .int .i64 x.most, .string x.node, .bool x.hold][j]? := (blk_all ((hb1.block _ hyl hne).trans hy)).1
        go_simp
        exact hK _ _ ⟨[s11, s12, .agg #[.string x.name, .string x.owner, .int .i64 x.prio, .slice B1 x.need.length d1, .slice B2 x.labels.length d2, .slice B3 x.sel.length d3, .slice B4 x.tols.length d4, .string x.key, .int .i64 x.most, .string x.node, .bool x.hold], s14, s15, s16, s17, s18], (by simp only [putAll, Act.put, List.setIfInBounds_toArray, List.set_cons_zero, List.set_cons_succ]), s11, s12, _, s14, s15, s16, s17, s18, A', c', rfl, hb, hb1, hcell, hs, m4, m0, h11, h12, fun _ => rfl, h14, h15, h16, h17, h18⟩
      case o3 =>
        rintro L a' W' K ⟨vs, rfl, s11, s12, s13, s14, s15, s16, s17, s18, A', c', rfl, hb, hb1, hcell, hs, m4, m0, h11, h12, h13, h14, h15, h16, h17, h18⟩ hL hd hK
        have q1 := h12 (hd 1 (by decide))
        have q2 := h13 (hd 2 (by decide))
        subst q1 q2
        simp only [putAll, Act.put, List.setIfInBounds_toArray, List.set_cons_zero, List.set_cons_succ]
        have hcf := callFunc_used1
        go_simp
        refine (used1_calls x B1 B2 B3 B4 _ _ _ _ _).mono ?_
        rintro e w3 ⟨rfl, hb3⟩
        exact hK _ _ ⟨[s11, .func (.func 209) #[] #[], .agg #[.string x.name, .string x.owner, .int .i64 x.prio, .slice B1 x.need.length d1, .slice B2 x.labels.length d2, .slice B3 x.sel.length d3, .slice B4 x.tols.length d4, .string x.key, .int .i64 x.most, .string x.node, .bool x.hold], .slice B1 x.need.length d1, s15, s16, s17, s18], (by simp only [putAll, Act.put, List.setIfInBounds_toArray, List.set_cons_zero, List.set_cons_succ]), s11, _, _, _, s15, s16, s17, s18, A', c', rfl, hb.then hb3, hb1.then hb3, (hb3.block _ (blk_lt hcell)).trans hcell, Kd.S.mono (nx_below hb3) hs, m4, m0, h11, fun _ => rfl, fun _ => rfl, fun _ => rfl, fun h => ⟨(h15 h).1, Kd.S.mono (nx_below hb3) (h15 h).2⟩, h16, h17, h18⟩
      case o4 =>
        rintro L a' W' K ⟨vs, rfl, s11, s12, s13, s14, s15, s16, s17, s18, A', c', rfl, hb, hb1, hcell, hs, m4, m0, h11, h12, h13, h14, h15, h16, h17, h18⟩ hL hd hK
        have f5 : L 5 = false ∧ L 6 = false ∧ L 7 = false ∧ L 8 = false := by
          refine ⟨?_, ?_, ?_, ?_⟩
          · cases hq : L 5 with
            | false => rfl
            | true => rw [m4 (.inl hq)] at hL; cases hL
          · cases hq : L 6 with
            | false => rfl
            | true => rw [m4 (.inr (.inl hq))] at hL; cases hL
          · cases hq : L 7 with
            | false => rfl
            | true => rw [m4 (.inr (.inr (.inl hq)))] at hL; cases hL
          · cases hq : L 8 with
            | false => rfl
            | true => rw [m4 (.inr (.inr (.inr hq)))] at hL; cases hL
        have q1 := h11 (hd 0 (by decide))
        have q2 := h14 (hd 3 (by decide))
        subst q1 q2
        have hc2 := hcell
        rw [f5.2.2.2, if_neg (by decide)] at hc2
        have hww := hb.size
        simp only [putAll, Act.put, List.setIfInBounds_toArray, List.set_cons_zero, List.set_cons_succ]
        go_simp
        refine (AddVec2_calls _ _ acc x.need _ (Kd.S.mono (nx_vw (by simp)) hs) (Kd.S.mono (vw_below (HW.out.trans (hb.below (Nat.le_refl _) HW.out.size))) HN.out)).mono ?_
        rw [hV]
        rintro e w3 ⟨A2, c2, rfl, hv2, hb3⟩
        have hv3 := Kd.S.mono (nx_new (own := none) (own' := none) hww (fun _ h => by cases h) rfl) hv2
        exact hK _ _ ⟨[.slice o acc.length oc, s12, s13, .slice B1 x.need.length d1, .tuple #[.slice A2 V.1.length c2, .int .i64 V.2], s16, s17, s18], (by simp only [putAll, Act.put, List.setIfInBounds_toArray, List.set_cons_zero, List.set_cons_succ]), _, s12, s13, _, _, s16, s17, s18, A2, c2, rfl, hb.then hb3, hb1.then hb3, (by show w3.heap[w0.heap.size]? = some (Obj.cells #[if L 8 = true then _ else _] _ _); rw [f5.2.2.2, if_neg (by decide)]; exact (hb3.block _ (blk_lt hc2)).trans hc2), Kd.S.mono (nx_below hb3) hs, (fun _ => rfl), (fun _ => hd 0 (by decide)), (fun _ => rfl), h12, h13, (fun _ => rfl), (fun _ => ⟨rfl, hv3⟩), (fun h => by rw [show setL L 4 5 = L 5 from rfl, f5.1] at h; cases h), (fun h => by rw [show setL L 4 6 = L 6 from rfl, f5.2.1] at h; cases h), (fun h => by rw [show setL L 4 7 = L 7 from rfl, f5.2.2.1] at h; cases h)⟩
      case o5 =>
        rintro L a' W' K ⟨vs, rfl, s11, s12, s13, s14, s15, s16, s17, s18, A', c', rfl, hb, hb1, hcell, hs, m4, m0, h11, h12, h13, h14, h15, h16, h17, h18⟩ hL hd hK
        simp only [putAll, Act.put, List.setIfInBounds_toArray, List.set_cons_zero, List.set_cons_succ]
        have q1 := (h15 (hd 4 (by decide))).1
        have hv3 := (h15 (hd 4 (by decide))).2
        subst q1
        clear h15
        go_simp
        exact hK _ _ ⟨[s11, s12, s13, s14, .tuple #[.slice A' V.1.length c', .int .i64 V.2], .slice A' V.1.length c', s17, s18], (by simp only [putAll, Act.put, List.setIfInBounds_toArray, List.set_cons_zero, List.set_cons_succ]), s11, s12, s13, s14, _, _, s17, s18, A', c', rfl, hb, hb1, hcell, hs, (fun _ => hd 4 (by decide)), m0, h11, h12, h13, h14, (fun _ => ⟨rfl, hv3⟩), (fun _ => rfl), h17, h18⟩
      case o6 =>
        rintro L a' W' K ⟨vs, rfl, s11, s12, s13, s14, s15, s16, s17, s18, A', c', rfl, hb, hb1, hcell, hs, m4, m0, h11, h12, h13, h14, h15, h16, h17, h18⟩ hL hd hK
        simp only [putAll, Act.put, List.setIfInBounds_toArray, List.set_cons_zero, List.set_cons_succ]
        have q1 := (h15 (hd 4 (by decide))).1
        have hv3 := (h15 (hd 4 (by decide))).2
        subst q1
        clear h15
        go_simp
        exact hK _ _ ⟨[s11, s12, s13, s14, .tuple #[.slice A' V.1.length c', .int .i64 V.2], s16, .int .i64 V.2, s18], (by simp only [putAll, Act.put, List.setIfInBounds_toArray, List.set_cons_zero, List.set_cons_succ]), s11, s12, s13, s14, _, s16, _, s18, A', c', rfl, hb, hb1, hcell, hs, (fun _ => hd 4 (by decide)), m0, h11, h12, h13, h14, (fun _ => ⟨rfl, hv3⟩), h16, (fun _ => rfl), h18⟩
      case o7 =>
        rintro L a' W' K ⟨vs, rfl, s11, s12, s13, s14, s15, s16, s17, s18, A', c', rfl, hb, hb1, hcell, hs, m4, m0, h11, h12, h13, h14, h15, h16, h17, h18⟩ hL hd hK
        have q1 := h16 (hd 5 (by decide))
        have q2 := h17 (hd 6 (by decide))
        subst q1 q2
        simp only [putAll, Act.put, List.setIfInBounds_toArray, List.set_cons_zero, List.set_cons_succ]
        go_simp
        by_cases hz : V.2 = 0
        · rw [hz]
          refine (take_ok _ _).mono ?_
          rintro e w3 ⟨rfl, rfl⟩
          exact hK _ _ ⟨[s11, s12, s13, s14, s15, .slice A' V.1.length c', .int .i64 0, .slice A' V.1.length c'], (by simp only [putAll, Act.put, List.setIfInBounds_toArray, List.set_cons_zero, List.set_cons_succ]), s11, s12, s13, s14, s15, _, _, _, A', c', rfl, hb, hb1, hcell, hs, (fun _ => m4 (.inl (hd 5 (by decide)))), m0, h11, h12, h13, h14, h15, (fun _ => rfl), (fun _ => by rw [hz]), (fun _ => ⟨rfl, hz⟩)⟩
        · refine (take_bad _ V.2 _ hz).mono ?_
          rintro e w3 ⟨rfl, rfl⟩
          have hr := HR2.out
          rw [if_pos hz] at hr
          refine ⟨rfl, ?_⟩
          rw [HRR.out, ← hr]
          exact ⟨hb, .inr ⟨hz, rfl⟩⟩
      case o8 =>
        rintro L a' W' K ⟨vs, rfl, s11, s12, s13, s14, s15, s16, s17, s18, A', c', rfl, hb, hb1, hcell, hs, m4, m0, h11, h12, h13, h14, h15, h16, h17, h18⟩ hL hd hK
        simp only [putAll, Act.put, List.setIfInBounds_toArray, List.set_cons_zero, List.set_cons_succ]
        have q1 := (h18 (hd 7 (by decide))).1
        subst q1
        have hc2 := hcell
        rw [hL, if_neg (by decide)] at hc2
        have zz := (blk_all hc2).1
        have zf := (blk_all hc2).2
        go_simp
        have hz := (h18 (hd 7 (by decide))).2
        have k4 := m4 (.inr (.inr (.inl (hd 7 (by decide)))))
        have hsc : ∀ u, (nx W' w.heap.size none).le (nx (W'.setCell ⟨w0.heap.size, 0, none⟩ u) w.heap.size none) := fun u b o hq => by
          obtain ⟨y1, y2, y3⟩ := nx_eq hq
          exact nx_mk (by omega) y2 ((Below.heap_setCell W' ⟨w0.heap.size, 0, none⟩ u b (by show b ≠ w0.heap.size; omega)).trans y3)
        exact hK _ _ ⟨[s11, s12, s13, s14, s15, s16, s17, .slice A' V.1.length c'], (by simp only [putAll, Act.put, List.setIfInBounds_toArray, List.set_cons_zero, List.set_cons_succ]), s11, s12, s13, s14, s15, s16, s17, _, A', c', rfl, hb.setCell _, hb1.setCell _, heap_setCell_same hc2, Kd.S.mono (hsc _) hs, (fun _ => k4), m0, h11, h12, h13, h14, (fun h => ⟨(h15 h).1, Kd.S.mono (hsc _) (h15 h).2⟩), h16, h17, (fun _ => ⟨rfl, hz⟩)⟩
      case rest =>
        rintro L vs W' ⟨s11, s12, s13, s14, s15, s16, s17, s18, A', c', rfl, hb, hb1, hcell, hs, m4, m0, h11, h12, h13, h14, h15, h16, h17, h18⟩ hL
        have k4 := hL 4
        have q1 := h11 (hL 0)
        have q2 := h12 (hL 1)
        have q3 := h13 (hL 2)
        have q4 := h14 (hL 3)
        have q5 := (h15 k4).1
        have hv3 := (h15 k4).2
        have q6 := h16 (hL 5)
        have q7 := h17 (hL 6)
        have q8 := (h18 (hL 7)).1
        have hz := (h18 (hL 7)).2
        rw [hL 8, if_pos rfl] at hcell
        subst q1 q2 q3 q4 q5 q6 q7 q8
        simp only [putAll, Act.put, List.setIfInBounds_toArray, List.set_cons_zero, List.set_cons_succ]
        have hr := HR2.out
        rw [if_neg (by simp [hz])] at hr
        have HR3 := Lib.hid hr
        have HX2 := Lib.hid hcell
        have HS2 := Lib.hid hv3
        have HB3 := Lib.hid hb
        clear hr hcell hv3 hb hb1 hs m4 m0 h11 h12 h13 h14 h15 h16 h17 h18 hz hL k4 HS HX HR HR2 hx2 hs2 hy
        go_wp2
        go_roundw
        case rel => exact ⟨k + 1, A', c', V.1, by omega, by go_num, HR3.out, HX2.out, HS2.out, HB3.out⟩
        case measure => simp [intOf]; omega
    · obtain rfl : k = l.length := by omega
      rw [List.drop_length, sumV] at hr
      have HR2 := Lib.hid hr
      clear hr HR
      go_wp2
      go_end0
      rw [HRR.out, ← HR2.out]
      exact ⟨HB.out, .inl ⟨rfl, rfl, _, HX.out, HS.out⟩⟩
end Go.Proofs.YtnmhicgbdalniaaGreatDoor
