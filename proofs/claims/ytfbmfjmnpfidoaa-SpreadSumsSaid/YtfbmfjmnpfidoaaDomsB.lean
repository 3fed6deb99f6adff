import Derived.Test.YtfbmfjmnpfidoaaDoms
import Derived.Test.YtfbmfjmnpfidoaaOf
import Derived.Test.YtfbmfjmnpfidoaaShelf
import Derived.Sort.OwnSorted
import Derived.Sort.Grow
import Derived.Lib.OwnBridge
namespace Go.Proofs.Ytfbmfjmnpfidoaa
open Go.RowKit Go.Sort

/-- A row of strings, in memory that is new. -/
def DomsDone (l : List (List UInt8)) (w : World) (e : Ending) (w' : World) : Prop := ∃ sv, e = .returned sv ∧ w'.ownsRow w.heap.size 9 1 sv l.length (l.map encStr) ∧ Below w.heap.size w w'
theorem doms_left {w w1 : World} {g cap n nn q : Nat} {os : Array Obj} {ss : List (List UInt8)} (hown : w1.ownsRow w.heap.size 9 1 (.slice (some ⟨g, 0, none⟩) n cap) n (ss.map encStr)) (hbel : Below w.heap.size w w1) (hbg : w.heap.size ≤ g) (hlen : ss.length = n) :
    DomsDone (insAll ss) w (.returned (.slice (some ⟨g, 0, none⟩) (Lib.compact (ss.mergeSort fun x y => decide (x ≤ y))).length cap))
      (putRow encStr (Sort.ahead (grow (putRow encStr (Sort.ahead w1 nn) g 0 (ss.mergeSort fun x y => decide (x ≤ y)).toArray) os) q) g 0 (Lib.compact (ss.mergeSort fun x y => decide (x ≤ y)) ++ List.replicate (n - (Lib.compact (ss.mergeSort fun x y => decide (x ≤ y))).length) []).toArray) := by
  have hl2 : (ss.mergeSort fun x y => decide (x ≤ y)).length = ss.length := List.length_mergeSort ss
  have hle := Lib.compact_length_le (ss.mergeSort fun x y => decide (x ≤ y))
  subst hlen
  rw [insAll_eq]
  rcases hown.2 with ⟨h0, _⟩ | ⟨g', cap', cur, hv, hbase, hb, h1, h2, h3, h4⟩
  · cases h0
  cases hv
  have hs := ownsRow_sorted (n := nn) (os := os) (ts := ss.mergeSort fun x y => decide (x ≤ y)) hl2 hbase hb h1 h2 h3
  have hc := Lib.ownsRow_putRow (q := q) (k := (Lib.compact (ss.mergeSort fun x y => decide (x ≤ y))).length) (ys := Lib.compact (ss.mergeSort fun x y => decide (x ≤ y)) ++ List.replicate (ss.length - (Lib.compact (ss.mergeSort fun x y => decide (x ≤ y))).length) []) hs (by simp; omega) (by omega)
  rw [List.take_left] at hc
  exact ⟨_, rfl, hc, Lib.below_putRow (hbel.grown (grownBy_sorted _) hbel.size (fun j hj => by cases hj; exact hbase)) hbg⟩
theorem own_base {w : World} {base base' : Nat} {e : TypeId} {size : Nat} {v : Value} {n : Nat} {xs : List Value} (h : w.ownsRow base e size v n xs) (hb : base' ≤ base) : w.ownsRow base' e size v n xs := by
  obtain ⟨h1, h2 | ⟨g, cap, cur, h3, h4, h5⟩⟩ := h
  · exact ⟨h1, .inl h2⟩
  · exact ⟨h1, .inr ⟨g, cap, cur, h3, by omega, h5⟩⟩
theorem info_str : (Try.prog.info? 9).map (fun i => (i.zero, i.size, i.bytes)) = some (some (.string ⟨#[]⟩), 1, 16) := by kernel_rfl
set_option maxHeartbeats 4000000 in
set_option maxRecDepth 100000 in
theorem Domains_calls (vs : Value) (s : St) (key : ByteArray) (w : World) (hs : Kd.state.V (vw w []) vs s) (hn : s.nodes.length ≤ 1000) :
    Calls Try.prog 16 #[vs, .string key] w (DomsDone (domsV s.nodes key) w) := by
  obtain ⟨i0, hi, hz0, hz1, hz2⟩ := info_parts info_str
  obtain ⟨cs, rfl, hks⟩ := hs
  obtain ⟨A1, c1, A2, c2, A3, c3, rfl, s1, -, -⟩ := hks
  have S1 := Lib.hid s1
  clear s1
  go_enter Try.func16, Try.ntmps16
  go_wp2
  obtain ⟨W, hW⟩ : ∃ W : World, W = w.alloc (.cells #[.slice A1 s.nodes.length c1, .slice A2 s.pods.length c2, .slice A3 s.budgets.length c3] 26) := ⟨_, rfl⟩
  rw [← hW]
  have hbw : Below w.heap.size w W := by rw [hW]; exact alloc_below _ _
  have k1 : W.heap[w.heap.size]? = some (.cells #[.slice A1 s.nodes.length c1, .slice A2 s.pods.length c2, .slice A3 s.budgets.length c3] 26 (0, 0)) := by
    rw [hW]; exact blk_last _ _
  have HBW := Lib.hid hbw
  obtain ⟨z, zf⟩ := blk_all k1
  clear hbw k1 hW
  go_wp2
  go_loopw [5, 13] (fun o i wr => ∃ k : Nat, k ≤ s.nodes.length ∧ i = .int .i64 k ∧ Hid (wr.ownsRow W.heap.size 9 1 o (domsL (s.nodes.take k) key).length (((domsL (s.nodes.take k) key).map bs).map encStr)) ∧ Hid (Below W.heap.size W wr)) (fun _ i _ => s.nodes.length - (intOf i).toNat)
  case atStart => exact ⟨0, Nat.zero_le _, rfl, World.ownsRow_nil _ _ _ _, Below.refl _ _⟩
  case round =>
    obtain ⟨k, hk, rfl, HO, HB⟩ := hrel
    clear z zf
    by_cases hlt : k < s.nodes.length
    · have hdl : (domsL (s.nodes.take k) key).length ≤ k := by
        have := domsL_len (s.nodes.take k) key
        rw [List.length_take] at this; omega
      have hsn := domsL_snoc s.nodes key hlt
      obtain ⟨b, off, cs, rfl, hn2, hc⟩ := S1.out.both (Below.then HBW.out HB.out) k hlt
      obtain ⟨x, hx⟩ : ∃ x, s.nodes[k] = x := ⟨_, rfl⟩
      rw [hx] at hn2 hsn
      obtain ⟨D1, g1, D2, g2, D3, g3, rfl, -, -, t2, -⟩ := hn2
      have T2 : Hid (Kd.pair.S (vw w []) (.slice D2 x.labels.length g2) x.labels) := t2
      have HC : Hid (wr.rangeAt b (off + k * 5) _) := hc
      have HSN := Lib.hid hsn
      clear hc hsn hx t2
      obtain ⟨d, ok, hd⟩ : ∃ d ok, getV x.labels key = (d, ok) := ⟨_, _, rfl⟩
      have HD := Lib.hid hd
      clear hd
      have hsz := HB.out.size
      have HB2 : Hid (Below W.heap.size W (wr.alloc (.cells #[.string x.name, .slice D1 x.cap.length g1, .slice D2 x.labels.length g2, .slice D3 x.taints.length g3, .bool x.cordon] 68))) := Below.then HB.out (alloc_below _ _)
      go_upto_region 5 with (with_reducible refine wpList_load_mid rfl 68 _ rfl b (off + k * 5) rfl _ _ HC.out Try.underlying68 rfl (by kernel_rfl) ?_)
      generalize hU : wr.alloc (.cells #[.string x.name, .slice D1 x.cap.length g1, .slice D2 x.labels.length g2, .slice D3 x.taints.length g3, .bool x.cordon] 68) = U at HB2 ⊢
      have hub : U.heap[wr.heap.size]? = some (.cells #[.string x.name, .slice D1 x.cap.length g1, .slice D2 x.labels.length g2, .slice D3 x.taints.length g3, .bool x.cordon] 68 (0, 0)) := by rw [← hU]; exact blk_last _ _
      have hue : Below wr.heap.size wr U := by rw [← hU]; exact alloc_below _ _
      have HOU := Lib.hid (own_below HO.out hue)
      have TU : Hid (Kd.pair.S (vw U []) (.slice D2 x.labels.length g2) x.labels) := T2.out.mono (vw_below (Below.then HBW.out HB2.out))
      obtain ⟨y, yf⟩ := blk_all hub
      clear hU hub hue
      go_wp2_with fail
      refine (Get_calls _ x.labels key _ TU.out).mono ?_
      unfold GetDone
      rw [HD.out]
      rintro e w1 ⟨rfl, hb1⟩
      have HB3 := Lib.hid (Below.then HB2.out hb1)
      have HO1 := Lib.hid (own_below HOU.out hb1)
      clear hb1 y yf
      simp only
      rw [HD.out] at HSN
      cases ok with
      | false =>
        have hs2 : domsL (s.nodes.take (k + 1)) key = domsL (s.nodes.take k) key := by rw [HSN.out]; simp
        have HS2 := Lib.hid hs2
        clear hs2
        go_wp2
        go_roundw
        case rel => exact ⟨k + 1, by omega, by go_num, by rw [HS2.out]; exact HO1, HB3.out⟩
        case measure => simp [intOf]; omega
      | true =>
        have hs2 : domsL (s.nodes.take (k + 1)) key = domsL (s.nodes.take k) key ++ [d] := by rw [HSN.out]; simp
        have HS2 := Lib.hid hs2
        clear hs2
        have hsz1 := HB3.out.size
        go_wp2_with (at_builtin; refine wpList_append_own _ rfl _ _ 57 rfl W.heap.size 9 i0 (.string ⟨#[]⟩) 1 16 Try.underlying57 hi hz0 hz1 hz2 rfl (by decide) _ _ _ rfl (HO1.out.alloc _) ⟨w1.heap.size, 0, none⟩ 1 1 [.string d] rfl rfl (one_new _ _ _) (by simp [Value.oneCell']) (by simp only [maxLen]; omega) (by omega) (by simp; omega) ?_)
        intro v' w2 hown' hgrow _
        have HO2 : Hid (w2.ownsRow W.heap.size 9 1 v' (domsL (s.nodes.take (k + 1)) key).length (((domsL (s.nodes.take (k + 1)) key).map bs).map encStr)) := by
          show World.ownsRow _ _ _ _ _ _ _
          rw [HS2.out, List.length_append, List.map_append, List.map_append, List.map_map]; exact hown'
        have HB4 := Lib.hid ((HB3.out.alloc hsz1 _).grown hgrow (by simp; omega) (fun q hq => (HO1.out.lt q hq).1))
        clear hown' hgrow
        go_wp2
        go_roundw
        case rel => exact ⟨k + 1, by omega, by go_num, HO2.out, HB4.out⟩
        case measure => simp [intOf]; omega
    · obtain rfl : k = s.nodes.length := by omega
      have ho := HO.out
      rw [List.take_length] at ho
      have hdl := domsL_len s.nodes key
      have hdv : domsV s.nodes key = insAll ((domsL s.nodes key).map bs) := rfl
      obtain ⟨ss, hss⟩ : ∃ ss, (domsL s.nodes key).map bs = ss := ⟨_, rfl⟩
      have hsl : (domsL s.nodes key).length = ss.length := by rw [← hss, List.length_map]
      rw [hss, hsl] at ho
      rw [hss] at hdv
      have HDV := Lib.hid hdv
      rw [hsl] at hdl
      have HO3 := Lib.hid (own_base ho HBW.out.size)
      have HB3 := Lib.hid (Below.then HBW.out HB.out)
      clear HO ho hss hsl hdv
      rcases HO3.out.2 with ⟨rfl, h0⟩ | ⟨g1, cap1, cur1, rfl, -⟩
      · have he : ss = [] := List.eq_nil_of_length_eq_zero h0
        clear h0
        have HE := Lib.hid he
        clear he
        go_wp2_with (first
          | (go_at_call 52; refine (Try.slices_Sort_string_none none 0 _).mono ?_; rintro e w' ⟨rfl, rfl⟩)
          | (go_at_call 53; refine (Try.slices_Compact_string_empty none 0 _).mono ?_; rintro e w' ⟨rfl, rfl⟩))
        go_ret
        rw [HDV.out, HE.out]
        exact ⟨_, rfl, World.ownsRow_nil _ _ _ _, HB3.out⟩
      · obtain ⟨g, cap, hv, hbg, hgl, hncap, hcm, hlen, hH⟩ := Lib.holds_of_ownsRow HO3.out (by simp)
        cases hv
        have hsort := Try.slices_Sort_string g1 0 cap1 ss wr hH hgl (by omega)
        have HX := Lib.hid (And.intro hbg (And.intro hgl (And.intro hncap hH)))
        have HSO := Lib.hid hsort
        clear hsort hbg hgl hncap hH
        go_wp2_with fail
        refine HSO.out.mono ?_
        rintro e w2 ⟨rfl, nn, os, rfl⟩
        have hl2 : (ss.mergeSort fun x y => decide (x ≤ y)).length = ss.length := List.length_mergeSort ss
        have hH2 : Holds encStr (grow (putRow encStr (Sort.ahead wr nn) g1 0 (ss.mergeSort fun x y => decide (x ≤ y)).toArray) os) g1 0 (ss.mergeSort fun x y => decide (x ≤ y)).toArray :=
          holds_grow encStr _ os g1 0 _ (by simpa [putRow, mapBlock, Sort.ahead] using HX.out.2.1) (holds_putRow encStr _ g1 0 _ _ (holds_ahead encStr wr nn g1 0 _ HX.out.2.2.2) (by simp))
        have hcomp := Try.slices_Compact_string g1 0 cap1 (ss.mergeSort fun x y => decide (x ≤ y)) _ hH2 (by omega) (by have := HX.out.2.2.1; omega)
        rw [hl2] at hcomp
        have HCO := Lib.hid hcomp
        clear hcomp hH2 hl2
        go_wp2_with fail
        refine HCO.out.mono ?_
        rintro e w3 ⟨rfl, q, rfl⟩
        go_wp2
        go_ret
        rw [HDV.out]
        exact doms_left HO3.out HB3.out HX.out.1 rfl
end Go.Proofs.Ytfbmfjmnpfidoaa
