import Derived.Test.YtnmhicgbdalniaaGreatDoorMs3
import Derived.Test.YtnmhicgbdalniaaGreatDoorMs19
import Derived.Test.YtnmhicgbdalniaaGreatDoorMs28
import Derived.Shelf.Spec.SlicesInsertGrow
namespace Go.Proofs.YtnmhicgbdalniaaGreatDoor
open Go.RowKit Go.Sort

def keepL (name : ByteArray) (l : List Pd) : List Pd := l.filter fun p => !isN name p
theorem keepL_snoc (name : ByteArray) {l : List Pd} {k : Nat} (h : k < l.length) : keepL name (l.take (k + 1)) = keepL name (l.take k) ++ if isN name l[k] = true then [] else [l[k]] := by
  unfold keepL
  rw [List.take_succ_eq_append_getElem h, List.filter_append]
  congr 1
  cases hb : isN name l[k] <;> simp [hb]
theorem keepL_all (name : ByteArray) {l : List Pd} (h : ∀ x ∈ l, isN name x = false) : keepL name l = l := by
  unfold keepL
  rw [List.filter_eq_self]
  intro x hx
  rw [h x hx]; rfl
theorem pod_zero : ∀ w, (zeroValue 35).run Tryz.prog w = .ok (.agg #[.string ⟨#[]⟩, .string ⟨#[]⟩, .int .i64 0, .slice none 0 0, .slice none 0 0, .slice none 0 0, .slice none 0 0, .string ⟨#[]⟩, .int .i64 0, .string ⟨#[]⟩, .bool false]) w := by
  obtain ⟨i0, hi, hz0, -, -⟩ := info_parts info_pod
  intro w
  simp [zeroValue, typeInfo, hi, hz0]
/-- Where elements lie in a row that was written: those that are kept ahead, those to come as they were. -/
structure Kept (name : ByteArray) (h0 : View) (l : List Pd) (css cur : List (List Value)) (i j : Nat) : Prop where
  len : cur.length = css.length
  ahead : i = (keepL name (l.take j)).length
  kept : ∀ (t : Nat) (ht : t < (keepL name (l.take j)).length) (hc : t < cur.length), Kd.pod.K h0 (keepL name (l.take j))[t] cur[t]
  rest : ∀ t, j ≤ t → cur[t]? = css[t]?
theorem Rw.some {w : World} {g z : Nat} {css : List (List Value)} (h : Rw w g z css) (hz : 0 < z) {x : Nat} (hx : x < css.length * z) : (w.cell? ⟨g, x, none⟩).isSome = true := by
  have ht : x / z < css.length := Nat.div_lt_of_lt_mul (by rw [Nat.mul_comm]; exact hx)
  have hm := Nat.mod_lt x hz
  have := (h.there ht (x % z) hm).1
  rwa [Nat.mul_comm, Nat.div_add_mod] at this
theorem Rw.cut {w : World} {g z : Nat} {css : List (List Value)} (h : Rw w g z css) (k : Nat) : Rw w g z (css.take k) := by
  refine ⟨h.lt, fun c hc => h.len c (List.mem_of_mem_take hc), fun t c hc j v hv => ?_, h.free⟩
  rw [List.getElem?_take] at hc
  split at hc
  · exact h.at_ t c hc j v hv
  · cases hc
theorem Rw.front {w : World} {g z : Nat} {css : List (List Value)} (h : Rw w g z css) (i : Nat) (cs : List Value) : Rw (w.setCells g (i * z) cs) g z (css.take i) := by
  refine ⟨by rw [setCells_size]; exact h.lt, fun c hc => h.len c (List.mem_of_mem_take hc), fun t c hc j v hv => ?_, fun x => by rw [World.frozen?_setCells]; exact h.free x⟩
  rw [List.getElem?_take] at hc
  split at hc
  · rename_i hti
    have hj := (List.getElem?_eq_some_iff.1 hv).1
    have hl := h.len c (List.mem_of_getElem? hc)
    rw [World.cell?_setCells_out g cs (i * z) w ⟨g, t * z + j, none⟩ (fun _ _ => by
      have := Nat.mul_le_mul_right z (show t + 1 ≤ i by omega)
      rw [Nat.add_mul] at this
      left
      show t * z + j < i * z
      omega)]
    exact h.at_ t c hc j v hv
  · cases hc
def DelDone (l : List Pd) (name : ByteArray) (h0 : View) (w0 _ : World) (e : Ending) (w' : World) : Prop := Below w0.heap.size w0 w' ∧
  ∃ g cap cur, w0.heap.size ≤ g ∧ e = .returned (.slice (some ⟨g, 0, none⟩) (keepL name l).length cap) ∧ (keepL name l).length ≤ cap ∧ Rw w' g 11 cur ∧ (keepL name l).length ≤ cur.length ∧ (∀ (t : Nat) (ht : t < (keepL name l).length) (hc : t < cur.length), Kd.pod.K h0 (keepL name l)[t] cur[t]) ∧ Blk w' g 35 (cap * 11) ∧ cap ≤ maxLen
theorem Below.setCells' {w0 w : World} (h : Below w0.heap.size w0 w) {g : Nat} (hg : w0.heap.size ≤ g) (cs : List Value) (o : Nat) : Below w0.heap.size w0 (w.setCells g o cs) := Below.setCells h hg cs o
set_option maxHeartbeats 8000000 in
set_option maxRecDepth 100000 in
theorem Delete_calls (g cap nb : Nat) (name : ByteArray) (l : List Pd) (css : List (List Value)) (h0 : View) (w0 w : World) (hb0 : Below w0.heap.size w0 w) (hg : w0.heap.size ≤ g) (hl : css.length = l.length) (hk : ∀ (t : Nat) (ht : t < l.length) (hc : t < css.length), Kd.pod.K h0 l[t] css[t])
    (hr : Rw w g 11 css) (hn : w0.cell? ⟨nb, 0, none⟩ = some (.string name)) (hx : l.length ≤ 1000) (hcap : l.length ≤ cap) (hcm : cap ≤ maxLen) (hk0 : Blk w g 35 (cap * 11)) :
    Calls Tryz.prog 103 #[.slice (some ⟨g, 0, none⟩) l.length cap, .func (.func 105) #[] #[.pointer (some ⟨nb, 0, none⟩)]] w (DelDone l name h0 w0 w) := by
  have HCM := Lib.hid hcm
  have HBK := Lib.hid hk0
  unfold maxLen at hcm
  have hnlt : nb < w0.heap.size := cell_lt hn
  have HL := Lib.hid hl
  have HK := Lib.hid hk
  have HR := Lib.hid hr
  have HN := Lib.hid hn
  have HB := Lib.hid hb0
  clear hl hk hr hn hb0 hk0
  go_enter Tryz.func103, Tryz.ntmps103
  go_wp2_with fail
  refine (index_calls g cap nb name l css h0 _ HL.out HK.out HR.out (keep_cell HB.out HN.out) (by have := HB.out.size; omega) hx hcap).mono ?_
  rintro e w1 ⟨hb, hor⟩
  replace HR := Lib.hid (HR.out.below hb)
  replace HB := Lib.hid (Below.then HB.out hb)
  replace HBK := Lib.hid (HBK.out.below hb)
  clear hb
  rcases hor with ⟨hall, rfl⟩ | ⟨i, hil, hpi, hbi, rfl⟩
  · have hka := keepL_all name hall
    have HKA := Lib.hid hka
    clear hall hka
    go_wp2
    go_ret
    refine ⟨HB.out, g, cap, css, hg, ?_, ?_, HR.out, ?_, ?_, HBK.out, HCM.out⟩
    · rw [HKA.out]; rfl
    · rw [HKA.out]; exact hcap
    · rw [HKA.out, HL.out]; exact Nat.le_refl _
    · rw [HKA.out]; exact HK.out
  have HST : Hid (Kept name h0 l css css i (i + 1)) := by
    have h1 : keepL name (l.take (i + 1)) = l.take i := by rw [keepL_snoc name hil, hpi, if_pos rfl, List.append_nil, keepL_all name hbi]
    refine ⟨rfl, by rw [h1, List.length_take]; omega, ?_, fun _ _ => rfl⟩
    rw [h1]
    intro t ht hc
    rw [List.getElem_take]
    rw [List.length_take] at ht
    exact HK.out t (by omega) hc
  clear hpi hbi
  have ti : ((i : Int) == -1) = false := beq_false_of_ne (by omega)
  go_wp2
  clear ti
  go_loopw [5, 6] (fun a b wr => ∃ (i j : Nat) (cur : List (List Value)), i < j ∧ j ≤ l.length ∧ a = .int .i64 i ∧ b = .int .i64 j ∧ Hid (Kept name h0 l css cur i j) ∧ Hid (Rw wr g 11 cur) ∧ Hid (Below w0.heap.size w0 wr) ∧ Hid (Blk wr g 35 (cap * 11))) (fun _ b _ => l.length - (intOf b).toNat)
  case atStart => exact ⟨i, i + 1, css, by omega, by omega, by go_num, by go_num, HST.out, HR.out, HB.out, HBK.out⟩
  case round =>
    clear HST HR HB HBK
    obtain ⟨i, j, cur, hij, hj, rfl, rfl, HS, HR, HB, HBK⟩ := hrel
    by_cases hlt : j < l.length
    · have hlc : j < css.length := by have := HL.out; omega
      have hlcur : j < cur.length := by have := HS.out.len; omega
      have hkj := HK.out j hlt hlc
      have hcj : cur[j]? = some css[j] := by rw [HS.out.rest j (Nat.le_refl _), List.getElem?_eq_getElem hlc]
      obtain ⟨c, hc⟩ : ∃ c, css[j]'hlc = c := ⟨_, rfl⟩
      rw [hc] at hkj hcj
      have HKC := Lib.hid hkj
      have HC : Hid (wr.rangeAt g (j * 11) c) := HR.out.at_ j c hcj
      have HNC : Hid (wr.cell? ⟨nb, 0, none⟩ = some (.string name)) := keep_cell HB.out HN.out
      obtain ⟨m, hm⟩ : ∃ m, isN name l[j] = m := ⟨_, rfl⟩
      have HM := Lib.hid hm
      have hsz := HB.out.size
      have hks := keepL_snoc name hlt
      rw [hm] at hks
      have HKS := Lib.hid hks
      have HCJ := Lib.hid hcj
      clear hc hkj hm hks hcj
      obtain ⟨B1, d1, B2, d2, B3, d3, B4, d4, rfl, -⟩ := id HKC.out
      go_upto_region 8 with (with_reducible refine wpList_load_mid rfl 35 _ rfl g (j * 11) rfl _ _ HC.out Tryz.underlying35 rfl (by kernel_rfl) ?_)
      obtain ⟨U, hU⟩ : ∃ U : World, U = wr.alloc (.cells #[.string l[j].name, .string l[j].owner, .int .i64 l[j].prio, .slice B1 l[j].need.length d1, .slice B2 l[j].labels.length d2, .slice B3 l[j].sel.length d3, .slice B4 l[j].tols.length d4, .string l[j].key, .int .i64 l[j].most, .string l[j].node, .bool l[j].hold] 35) := ⟨_, rfl⟩
      rw [← hU]
      have hub : U.heap[wr.heap.size]? = some (.cells #[.string l[j].name, .string l[j].owner, .int .i64 l[j].prio, .slice B1 l[j].need.length d1, .slice B2 l[j].labels.length d2, .slice B3 l[j].sel.length d3, .slice B4 l[j].tols.length d4, .string l[j].key, .int .i64 l[j].most, .string l[j].node, .bool l[j].hold] 35 (0, 0)) := by rw [hU]; exact blk_last _ _
      have hue : Below wr.heap.size wr U := by rw [hU]; exact alloc_below _ _
      replace HB := Lib.hid (Below.then HB.out hue)
      replace HBK := Lib.hid (HBK.out.below hue)
      replace HR := Lib.hid (HR.out.below hue)
      replace HNC := Lib.hid (keep_cell hue HNC.out)
      have hus := hue.size
      have HUB := Lib.hid hub
      obtain ⟨u, uf⟩ := blk_all hub
      clear hU hub hue HC
      go_wp2_with fail
      refine (drop1_calls _ l[j] name nb _ ⟨_, HKC.out⟩ HNC.out (by omega)).mono ?_
      rintro e w2 ⟨rfl, hb⟩
      rw [HM.out]
      replace HB := Lib.hid (Below.then HB.out hb)
      replace HBK := Lib.hid (HBK.out.below hb)
      replace HR := Lib.hid (HR.out.below hb)
      replace HUB := Lib.hid ((hb.block _ (blk_lt HUB.out)).trans HUB.out)
      clear hb u uf HNC
      obtain ⟨u, uf⟩ := blk_all HUB.out
      cases m with
      | true =>
        have HS2 : Hid (Kept name h0 l css cur i (j + 1)) := by
          have h1 : keepL name (l.take (j + 1)) = keepL name (l.take j) := by rw [HKS.out, if_pos rfl, List.append_nil]
          refine ⟨HS.out.len, by rw [h1]; exact HS.out.ahead, ?_, fun t ht => HS.out.rest t (by omega)⟩
          rw [h1]; exact HS.out.kept
        go_wp2
        go_roundw
        case rel => exact ⟨i, j + 1, cur, by omega, by omega, by go_num, by go_num, HS2.out, HR.out, HB.out, HBK.out⟩
        case measure => simp [intOf]; omega
      | false =>
        have hic : i < cur.length := by omega
        have HTH := Lib.hid (HR.out.there hic)
        have HR2 := Lib.hid (HR.out.set (c := [.string l[j].name, .string l[j].owner, .int .i64 l[j].prio, .slice B1 l[j].need.length d1, .slice B2 l[j].labels.length d2, .slice B3 l[j].sel.length d3, .slice B4 l[j].tols.length d4, .string l[j].key, .int .i64 l[j].most, .string l[j].node, .bool l[j].hold]) hic rfl)
        have HB2 := Lib.hid (Below.setCells' HB.out hg [.string l[j].name, .string l[j].owner, .int .i64 l[j].prio, .slice B1 l[j].need.length d1, .slice B2 l[j].labels.length d2, .slice B3 l[j].sel.length d3, .slice B4 l[j].tols.length d4, .string l[j].key, .int .i64 l[j].most, .string l[j].node, .bool l[j].hold] (i * 11))
        have HS2 : Hid (Kept name h0 l css (cur.set i [.string l[j].name, .string l[j].owner, .int .i64 l[j].prio, .slice B1 l[j].need.length d1, .slice B2 l[j].labels.length d2, .slice B3 l[j].sel.length d3, .slice B4 l[j].tols.length d4, .string l[j].key, .int .i64 l[j].most, .string l[j].node, .bool l[j].hold]) (i + 1) (j + 1)) := by
          have h1 : keepL name (l.take (j + 1)) = keepL name (l.take j) ++ [l[j]] := by rw [HKS.out, if_neg (by decide)]
          refine ⟨by rw [List.length_set]; exact HS.out.len, by rw [h1, List.length_append, ← HS.out.ahead]; rfl, ?_, fun t ht => by rw [List.getElem?_set_ne (by omega)]; exact HS.out.rest t (by omega)⟩
          rw [h1]
          intro t ht hc
          rw [List.length_append, ← HS.out.ahead, List.length_singleton] at ht
          by_cases e : t = i
          · subst e
            rw [List.getElem_set_self, List.getElem_append_right (by rw [← HS.out.ahead]; exact Nat.le_refl _)]
            simpa using HKC.out
          · rw [List.getElem_set_ne (Ne.symm e), List.getElem_append_left (by rw [← HS.out.ahead]; omega)]
            exact HS.out.kept t (by rw [← HS.out.ahead]; omega) (by rw [List.length_set] at hc; exact hc)
        have HONE : Hid ((#[.string l[j].name, .string l[j].owner, .int .i64 l[j].prio, .slice B1 l[j].need.length d1, .slice B2 l[j].labels.length d2, .slice B3 l[j].sel.length d3, .slice B4 l[j].tols.length d4, .string l[j].key, .int .i64 l[j].most, .string l[j].node, .bool l[j].hold] : Array Value).all (·.oneCell') = true) := by show _ = true; simp [Value.oneCell']
        have HTH2 : Hid (w2.there g (i * 11) (#[.string l[j].name, .string l[j].owner, .int .i64 l[j].prio, .slice B1 l[j].need.length d1, .slice B2 l[j].labels.length d2, .slice B3 l[j].sel.length d3, .slice B4 l[j].tols.length d4, .string l[j].key, .int .i64 l[j].most, .string l[j].node, .bool l[j].hold] : Array Value).size) := HTH.out
        go_wp2_with (with_reducible refine wpList_store_mid rfl 35 _ _ rfl g (i * 11) _ rfl rfl HTH2.out (by kernel_rfl) HONE.out ?_)
        go_roundw
        case rel => exact ⟨i + 1, j + 1, _, by omega, by omega, by go_num, by go_num, HS2.out, HR2.out, HB2.out, HBK.out.setCells _ _ _⟩
        case measure => simp [intOf]; omega
    · obtain rfl : j = l.length := by omega
      have hcl : cur.length = l.length := by rw [HS.out.len, HL.out]
      have hia := HS.out.ahead
      rw [List.take_length] at hia
      have hkk := HS.out.kept
      rw [List.take_length] at hkk
      have hcap2 : i ≤ cap := by omega
      have hci : ¬ cap = i := by omega
      have HIA := Lib.hid hia
      have HKK := Lib.hid hkk
      have HS1 : Hid (∀ x, x < (l.length - i) * (Value.agg #[.string ⟨#[]⟩, .string ⟨#[]⟩, .int .i64 0, .slice none 0 0, .slice none 0 0, .slice none 0 0, .slice none 0 0, .string ⟨#[]⟩, .int .i64 0, .string ⟨#[]⟩, .bool false]).cells.size → (wr.cell? ⟨g, i * 11 + x, none⟩).isSome = true) := fun x hx => HR.out.some (by decide) (by
        have hx' : x < (l.length - i) * 11 := hx
        rw [hcl]; omega)
      have HS2 : Hid (∀ x, x < (l.length - i) * (Value.agg #[.string ⟨#[]⟩, .string ⟨#[]⟩, .int .i64 0, .slice none 0 0, .slice none 0 0, .slice none 0 0, .slice none 0 0, .string ⟨#[]⟩, .int .i64 0, .string ⟨#[]⟩, .bool false]).cells.size → wr.frozen? ⟨g, i * 11 + x, none⟩ = false) := fun x hx => HR.out.free _
      have HS3 : Hid (∀ v ∈ (Value.agg #[.string ⟨#[]⟩, .string ⟨#[]⟩, .int .i64 0, .slice none 0 0, .slice none 0 0, .slice none 0 0, .slice none 0 0, .string ⟨#[]⟩, .int .i64 0, .string ⟨#[]⟩, .bool false]).cells.toList, v.oneCell' = true) := by
        show ∀ v ∈ ([.string ⟨#[]⟩, .string ⟨#[]⟩, .int .i64 0, .slice none 0 0, .slice none 0 0, .slice none 0 0, .slice none 0 0, .string ⟨#[]⟩, .int .i64 0, .string ⟨#[]⟩, .bool false] : List Value), _
        simp [Value.oneCell']
      have hpos : 0 < l.length - i := by omega
      have HF := Lib.hid (HR.out.front i (Builtin.zeroCells (Value.agg #[.string ⟨#[]⟩, .string ⟨#[]⟩, .int .i64 0, .slice none 0 0, .slice none 0 0, .slice none 0 0, .slice none 0 0, .string ⟨#[]⟩, .int .i64 0, .string ⟨#[]⟩, .bool false]).cells (l.length - i)).toList)
      have HB2 := Lib.hid (Below.setCells' HB.out hg (Builtin.zeroCells (Value.agg #[.string ⟨#[]⟩, .string ⟨#[]⟩, .int .i64 0, .slice none 0 0, .slice none 0 0, .slice none 0 0, .slice none 0 0, .string ⟨#[]⟩, .int .i64 0, .string ⟨#[]⟩, .bool false]).cells (l.length - i)).toList (i * 11))
      clear hia hkk
      go_wp2_with (with_reducible refine wpList_clear rfl 23 35 _ rfl _ Tryz.underlying23 pod_zero HS3.out (by decide) g (i * 11) (l.length - i) _ hpos rfl HS1.out HS2.out ?_)
      go_ret
      refine ⟨HB2.out, g, cap, cur.take i, hg, ?_, ?_, HF.out, ?_, ?_, HBK.out.setCells _ _ _, HCM.out⟩
      · rw [← HIA.out]; rfl
      · rw [← HIA.out]; exact hcap2
      · rw [← HIA.out, List.length_take]; omega
      · intro t ht hc
        rw [List.getElem_take]
        exact HKK.out t ht (by rw [List.length_take] at hc; omega)
end Go.Proofs.YtnmhicgbdalniaaGreatDoor
namespace Go.Proofs.YtnmhicgbdalniaaGreatDoor
open Go.RowKit Go.Sort

/-! Rows of a call's own, whose elements were there ahead. -/
theorem own_setCells {base : Nat} {e : TypeId} {size : Nat} {v : Value} {n : Nat} {xs : List Value} {b : Nat} (hb : b < base) : ∀ (cs : List Value) (o : Nat) {w : World}, w.ownsRow base e size v n xs → (w.setCells b o cs).ownsRow base e size v n xs
  | [], _, _, h => h
  | c :: r, o, _, h => own_setCells hb r (o + 1) (ownsRow_setCell_below h (a := ⟨b, o, none⟩) hb c)
theorem vw_all (w : World) (M : List Nat) : (vw w M).le (vw w []) := fun b o hb => vw_mk (by simp) (vw_eq hb).2
theorem View.leT {a b c : View} (h : a.le b) (k : b.le c) : a.le c := fun x o hx => k x o (h x o hx)
namespace Kd
variable {α : Type}
theorem S.bothM {d : Kd α} {w wr : World} {M : List Nat} {A : Option Addr} {m cap : Nat} {xs : List α} (s : d.S (vw w M) (.slice A m cap) xs) (hb : Below w.heap.size w wr) (j : Nat) (hj : j < xs.length) :
    ∃ b off cs, A = some ⟨b, off, none⟩ ∧ d.K (vw w M) xs[j] cs ∧ wr.rangeAt b (off + j * d.sz) cs := by
  obtain ⟨b, off, cs, e, h1, h2⟩ := s.elem j hj
  exact ⟨b, off, cs, e, h1, range_of_view fun i u hu => View.cell_mono (vw_below hb) (h2 i u hu)⟩
/-- A row of a call's own, whose elements were there ahead. -/
def Row0 (d : Kd α) (w0 : World) (M : List Nat) (w : World) (base : Nat) (e : TypeId) (v : Value) (xs : List α) : Prop :=
  ∃ css : List (List Value), css.length = xs.length ∧ (∀ (j : Nat) (x : α), xs[j]? = some x → ∃ cs, css[j]? = some cs ∧ d.K (vw w0 M) x cs) ∧ w.ownsRow base e d.sz v xs.length css.flatten
theorem Row0.nil (d : Kd α) (w0 : World) (M : List Nat) (w : World) (base : Nat) (e : TypeId) : d.Row0 w0 M w base e (.slice none 0 0) [] := ⟨[], rfl, fun j x h => by simp at h, World.ownsRow_nil _ _ _ _⟩
theorem Row0.own {d : Kd α} {w0 w : World} {M : List Nat} {base : Nat} {e : TypeId} {v : Value} {xs : List α} (h : d.Row0 w0 M w base e v xs) (hb : Below w0.heap.size w0 w) (hl : w0.heap.size ≤ base) : d.Own w base e 0 v xs := by
  obtain ⟨css, h1, h2, h3⟩ := h
  exact ⟨css, h1, fun j x hx => by obtain ⟨cs, a, b⟩ := h2 j x hx; exact ⟨cs, a, d.mono (View.leT (vw_all w0 M) (vw_own hb fun q hq => Nat.le_trans hl (h3.lt q hq).1)) b⟩, h3⟩
theorem Row0.below {d : Kd α} {w0 w w' : World} {M : List Nat} {base : Nat} {e : TypeId} {v : Value} {xs : List α} (h : d.Row0 w0 M w base e v xs) (hb : Below w.heap.size w w') : d.Row0 w0 M w' base e v xs := by
  obtain ⟨css, h1, h2, h3⟩ := h
  exact ⟨css, h1, h2, own_below h3 hb⟩
theorem Row0.setCell {d : Kd α} {w0 w : World} {M : List Nat} {base : Nat} {e : TypeId} {v : Value} {xs : List α} (h : d.Row0 w0 M w base e v xs) {p : Addr} (hp : p.block < base) (u : Value) : d.Row0 w0 M (w.setCell p u) base e v xs := by
  obtain ⟨css, h1, h2, h3⟩ := h
  exact ⟨css, h1, h2, ownsRow_setCell_below h3 hp u⟩
theorem own_none {w : World} {base : Nat} {e : TypeId} {size : Nat} {n : Nat} {A : Option Addr} {c : Nat} {xs : List Value} (h : w.ownsRow base e size (.slice A n c) n xs) : A = none → c = 0 := fun hA => by
  rcases h.2 with ⟨h1, h0⟩ | ⟨g, cap, cur, h1, _⟩
  · injection h1
  · injection h1 with a1; rw [hA] at a1; cases a1
theorem row_form0 {w : World} {base : Nat} {e : TypeId} {size : Nat} {v : Value} {n : Nat} {xs : List Value} (h : w.ownsRow base e size v n xs) : ∃ A c, v = .slice A n c := by
  rcases h.2 with ⟨rfl, h0⟩ | ⟨g, cap, cur, rfl, _⟩
  · exact ⟨none, 0, by rw [h0]⟩
  · exact ⟨_, _, rfl⟩
theorem Row0.S {d : Kd α} {w0 w : World} {M : List Nat} {base : Nat} {e : TypeId} {v : Value} {xs : List α} (h : d.Row0 w0 M w base e v xs) (hb : Below w0.heap.size w0 w) (_ : w0.heap.size ≤ base) (hM : ∀ b ∈ M, b < base) (hx : xs.length ≤ 140737488351232) : d.S (vw w M) v xs := by
  obtain ⟨css, h1, h2, h3⟩ := h
  rcases Nat.eq_zero_or_pos xs.length with h0 | hp
  · obtain ⟨A, c, rfl⟩ := row_form0 h3
    have hn := own_none h3
    have he := List.eq_nil_of_length_eq_zero h0
    subst he
    exact Kd.S.empty _ _ _ _ hn
  · have hlen : ∀ c ∈ css, c.length = d.sz := fun c hc => by
      obtain ⟨j, hj, rfl⟩ := List.getElem_of_mem hc
      obtain ⟨cs, a, b⟩ := h2 j xs[j] (List.getElem?_eq_getElem (by omega))
      rw [List.getElem?_eq_getElem hj] at a
      cases a
      exact d.len b
    obtain ⟨g, cap, rfl, hg, hc1, hc2, hr⟩ := Rw.of_own h3 h1 hlen hp
    refine Rw.S (d := d) (fun hm => by have := hM _ hm; omega) hr (by omega) (fun t ht => ?_) hc1 hx
    obtain ⟨cs, a, b⟩ := h2 t xs[t] (List.getElem?_eq_getElem ht)
    rw [List.getElem?_eq_getElem (by omega)] at a
    cases a
    exact d.mono (vw_below hb) b
end Kd
theorem row0_ge {α : Type} {d : Kd α} {w0 w : World} {M : List Nat} {base : Nat} {e : TypeId} {v : Value} {xs : List α} (h : d.Row0 w0 M w base e v xs) : ∀ q, v.ownBlock = some q → base ≤ q := fun q hq => by
  obtain ⟨_, _, _, h⟩ := h
  exact (h.lt q hq).1
section
variable {α : Type} {d : Kd α} {P : Program} (w w0 : World) (M : List Nat) (base : Nat) (t e : TypeId) (i : TypeInfo) (z : Value) (bytes : Nat) (ht : P.underlying t = some (.slice e)) (hi : P.info? e = some i) (hz : i.zero = some z)
  (hsize : i.size = d.sz) (hby : i.bytes = bytes) (hzs : z.cells.size = d.sz) (hsz : 0 < d.sz) (v : Value) (xs : List α) (x : α) (cs : List Value) (hown : d.Row0 w0 M w base e v xs) (hk : d.K (vw w0 M) x cs)
  (g c : Nat) (T : TypeId) (hg : w.heap[g]? = some (.cells cs.toArray T (0, 0))) (h1 : ∀ u ∈ cs, u.oneCell' = true) (h63 : xs.length + 1 ≤ maxLen) (hbytes : (xs.length + 1) * bytes ≤ 140737488355328) (hbase : base ≤ w.heap.size)
  {o : Oper} {a : Act} {Q : Exit → Act → World → Prop} (s y : Operand) (ho : o.op = .call { callee := .builtin .append, args := #[s, y], argTypes := #[t, t] }) (hs : a.eval s = v) (hx : a.eval y = .slice (some ⟨g, 0, none⟩) 1 c) (hgd : o.guard = none)
include ht hi hz hsize hby hzs hsz hown hk hg h1 h63 hbytes hbase ho hs hx hgd
theorem wpList_row0 {ops : Array Oper} {rest : List Oper} (h : ∀ v' w', d.Row0 w0 M w' base e v' (xs ++ [x]) → w.grownBy w' v.ownBlock → wpList P ops Q rest (a.put o.dst v') w') : wpList P ops Q (o :: rest) a w := by
  obtain ⟨css, k1, k2, k3⟩ := hown
  exact wpList_app w base t e i z d.sz bytes ht hi hz hsize hby hzs hsz v xs.length css.flatten k3 (some ⟨g, 0, none⟩) 1 c cs (by rw [d.len hk]; omega) (fun e => by cases e) (fun ad had j u hu => by
      cases had
      have := World.news_of_block hg j u
      exact this (by simpa using hu)) h1 h63 hbytes hbase s y ho hs hx hgd fun v' w' ho' hg' _ => h v' w' ⟨css ++ [cs], by simp [k1], fun j y hy => by
        rcases Nat.lt_or_ge j xs.length with hlt | hge
        · rw [List.getElem?_append_left hlt] at hy
          obtain ⟨c, a, b⟩ := k2 j y hy
          exact ⟨c, by rw [List.getElem?_append_left (by omega)]; exact a, b⟩
        · rw [List.getElem?_append_right hge] at hy
          have hj : j = xs.length := by
            have := (List.getElem?_eq_some_iff.1 hy).1
            simp at this; omega
          subst hj
          simp only [Nat.sub_self, List.getElem?_cons_zero, Option.some.injEq] at hy
          subst hy
          exact ⟨cs, by rw [List.getElem?_append_right (by omega), ← k1, Nat.sub_self]; rfl, hk⟩, by rw [List.length_append, List.flatten_append]; simpa using ho'⟩ hg'
end
end Go.Proofs.YtnmhicgbdalniaaGreatDoor
namespace Go.Proofs.YtnmhicgbdalniaaGreatDoor
open Go.RowKit Go.Sort

set_option maxHeartbeats 1000000 in
theorem index_none (A : Option Addr) (c nb : Nat) (w : World) :
    Calls Tryz.prog 183 #[.slice A 0 c, .func (.func 105) #[] #[.pointer (some ⟨nb, 0, none⟩)]] w (SameDone (.int .i64 (-1)) w) := by
  go_enter Tryz.func183, Tryz.ntmps183
  go_wp2
  go_loop [8] (fun i => i = .int .i64 0) (fun _ => 0)
  case atStart => rfl
  case round =>
    subst hrel
    go_wp2
    go_ret
    exact ⟨rfl, rfl⟩
set_option maxHeartbeats 1000000 in
theorem delete_none (A : Option Addr) (c nb : Nat) (w : World) :
    Calls Tryz.prog 103 #[.slice A 0 c, .func (.func 105) #[] #[.pointer (some ⟨nb, 0, none⟩)]] w (SameDone (.slice A 0 c) w) := by
  go_enter Tryz.func103, Tryz.ntmps103
  go_wp2_with fail
  refine (index_none A c nb _).mono ?_
  rintro e w' ⟨rfl, rfl⟩
  go_wp2
  go_ret
  exact ⟨rfl, rfl⟩
def DropDone (M : List Nat) (s : St) (name : ByteArray) (w : World) (e : Ending) (w' : World) : Prop := ∃ cs : List Value, e = .returned (.agg cs.toArray) ∧ Kd.state.V (vw w' M) (.agg cs.toArray) (dropS s name) ∧ Below w.heap.size w w'
theorem Rw.other {w w' : World} {g z : Nat} {css : List (List Value)} (h : Rw w g z css) (hb : w'.heap[g]? = w.heap[g]?) (hs : w.heap.size ≤ w'.heap.size) : Rw w' g z css :=
  ⟨Nat.lt_of_lt_of_le h.lt hs, h.len, fun t c hc j v hv => by rw [show w'.cell? ⟨g, t * z + j, none⟩ = w.cell? ⟨g, t * z + j, none⟩ by simp only [World.cell?, hb]]; exact h.at_ t c hc j v hv, fun x => by rw [show w'.frozen? ⟨g, x, none⟩ = w.frozen? ⟨g, x, none⟩ by simp only [World.frozen?, hb]]; exact h.free x⟩
/-- A cluster without a pod, its row of pods in memory of the call's own. -/
def DropNew (M : List Nat) (s : St) (name : ByteArray) (w : World) (e : Ending) (w' : World) : Prop :=
  ∃ A1 c1 v A3 c3, e = .returned (.agg #[.slice A1 s.nodes.length c1, v, .slice A3 s.budgets.length c3]) ∧ Kd.node.S (vw w M) (.slice A1 s.nodes.length c1) s.nodes ∧ Kd.budget.S (vw w M) (.slice A3 s.budgets.length c3) s.budgets ∧ Kd.pod.Row0 w M w' w.heap.size 35 v (dropS s name).pods ∧ Below w.heap.size w w'
set_option maxHeartbeats 4000000 in
set_option maxRecDepth 100000 in
theorem Drop_new (v : Value) (s : St) (name : ByteArray) (w : World) {M : List Nat} (hv : Kd.state.V (vw w M) v s) (hl : s.pods.length ≤ 1000) :
    Calls Tryz.prog 33 #[v, .string name] w (DropNew M s name w) := by
  have hmf : ∀ (fn : Fn) (first cap : Array Value) (w : World), (Instr.makeFunc fn first cap).run Tryz.prog w = .ok (.func fn first cap) w := fun _ _ _ _ => rfl
  obtain ⟨cs, rfl, A1, c1, A2, c2, A3, c3, rfl, s1, s2, s3⟩ := hv
  have S1 := Lib.hid s1
  have S2 := Lib.hid s2
  have S3 := Lib.hid s3
  clear s1 s2 s3
  go_enter Tryz.func33, Tryz.ntmps33
  go_upto_region 1 with fail
  obtain ⟨W, hW⟩ : ∃ W : World, W = (((w.alloc (.cells #[.slice A1 s.nodes.length c1, .slice A2 s.pods.length c2, .slice A3 s.budgets.length c3] 26)).alloc (.cells #[.string name] 9)).alloc (.cells #[.slice none 0 0, .slice none 0 0, .slice none 0 0] 26)) := ⟨_, rfl⟩
  rw [← hW]
  have HB : Hid (Below w.heap.size w W) := by rw [hW]; exact Below.then (Below.then (alloc_below _ _) (alloc_below _ _)) (alloc_below _ _)
  have k1 : W.heap[w.heap.size]? = some (.cells #[.slice A1 s.nodes.length c1, .slice A2 s.pods.length c2, .slice A3 s.budgets.length c3] 26 (0, 0)) := by
    rw [hW]; exact (blk_old _ _ (by simp; omega)).trans ((blk_old _ _ (by simp)).trans (blk_last _ _))
  have k2 : W.heap[w.heap.size + 1]? = some (.cells #[.string name] 9 (0, 0)) := by
    rw [hW]; exact (blk_old _ _ (by simp)).trans ((show _ = w.heap.size + 1 by simp : (w.alloc (.cells #[.slice A1 s.nodes.length c1, .slice A2 s.pods.length c2, .slice A3 s.budgets.length c3] 26)).heap.size = w.heap.size + 1) ▸ blk_last _ _)
  have k3 : W.heap[w.heap.size + 2]? = some (.cells #[.slice none 0 0, .slice none 0 0, .slice none 0 0] 26 (0, 0)) := by
    rw [hW]
    have := blk_last ((w.alloc (.cells #[.slice A1 s.nodes.length c1, .slice A2 s.pods.length c2, .slice A3 s.budgets.length c3] 26)).alloc (.cells #[.string name] 9)) (.cells #[.slice none 0 0, .slice none 0 0, .slice none 0 0] 26)
    simpa using this
  have hNC : Hid (W.cell? ⟨w.heap.size + 1, 0, none⟩ = some (.string name)) := (blk_all k2).1 0
  have HQ := Lib.hid k1
  have HZ := Lib.hid k3
  have hsz : w.heap.size + 3 ≤ W.heap.size := by have := blk_lt k3; omega
  obtain ⟨z, zf⟩ := blk_all k1
  clear hW k1 k2 k3
  go_wp2_with fail
  refine (Clone_new _ s.pods w _ HB.out S2.out hl).mono ?_
  rintro e w1 ⟨hb, v1, css, rfl, hcl, hck, ho⟩
  have q1 := (hb.block _ (blk_lt HQ.out)).trans HQ.out
  have q3 := (hb.block _ (blk_lt HZ.out)).trans HZ.out
  clear z zf
  have hlen : ∀ c ∈ css, c.length = 11 := fun c hc => by
    obtain ⟨t, ht, rfl⟩ := List.getElem_of_mem hc
    exact Kd.pod.len (hck t (by omega) ht)
  rcases Nat.eq_zero_or_pos s.pods.length with h0 | hp
  · obtain ⟨A, c, rfl⟩ := Kd.row_form0 ho
    have he := List.eq_nil_of_length_eq_zero h0
    have hcs : css = [] := List.eq_nil_of_length_eq_zero (by omega)
    rw [hcs, h0] at ho
    rw [h0]
    have HE := Lib.hid he
    have HO := Lib.hid ho
    have HB2 := Lib.hid (Below.then HB.out hb)
    have HZ2 := Lib.hid q3
    obtain ⟨z, zf⟩ := blk_all q1
    obtain ⟨y, yf⟩ := blk_all q3
    have hl1 := blk_lt q1
    clear hb h0 q1 q3 ho hck hcl hlen he hcs
    go_wp2_with fail
    refine (delete_none A c (w.heap.size + 1) _).mono ?_
    rintro e w2 ⟨rfl, rfl⟩
    clear hmf
    go_wp2
    clear z zf y yf
    have hz3 : (w1.setCell ⟨w.heap.size, 1, none⟩ (.slice A 0 c)).heap[w.heap.size + 1 + 1]? = some (.cells [Value.slice none 0 0, .slice none 0 0, .slice none 0 0].toArray 26 (0, 0)) := (Below.heap_setCell w1 ⟨w.heap.size, 1, none⟩ _ _ (by show w.heap.size + 1 + 1 ≠ w.heap.size; omega)).trans HZ2.out
    have hset := setCells_all (cs := [.slice A1 s.nodes.length c1, .slice A 0 c, .slice A3 s.budgets.length c3]) hz3 rfl
    have hbel := Below.setCells (Below.setCell HB2.out (p := ⟨w.heap.size, 1, none⟩) (Nat.le_refl _) (.slice A 0 c)) (show w.heap.size ≤ w.heap.size + 1 + 1 by omega) [.slice A1 s.nodes.length c1, .slice A 0 c, .slice A3 s.budgets.length c3] 0
    have hpe : (dropS s name).pods = [] := by show List.filter _ s.pods = []; rw [HE.out]; rfl
    have ho2 := own_setCells (b := w.heap.size + 1 + 1) (by omega) [.slice A1 s.nodes.length c1, .slice A 0 c, .slice A3 s.budgets.length c3] 0 (ownsRow_setCell_below HO.out (a := ⟨w.heap.size, 1, none⟩) (by show w.heap.size < W.heap.size; omega) (.slice A 0 c))
    refine ret_row1 (cs := [.slice A1 s.nodes.length c1, .slice A 0 c, .slice A3 s.budgets.length c3]) rfl rfl hset Tryz.underlying26 rfl (by kernel_rfl) rfl ⟨A1, c1, _, A3, c3, rfl, S1.out, S3.out, ?_, hbel⟩
    rw [hpe]
    exact ⟨[], rfl, fun j x h => by simp at h, own_base ho2 (by omega)⟩
  · obtain ⟨g, cap, rfl, hg, hc1, hc2, hr⟩ := Rw.of_own ho hcl hlen hp
    have hbk := Blk.of_own ho
    have HB2 := Lib.hid (Below.then HB.out hb)
    have HQ2 := Lib.hid q1
    have HZ2 := Lib.hid q3
    have HR := Lib.hid hr
    have HCL := Lib.hid hcl
    have HCK := Lib.hid hck
    have hbW := Lib.hid hb
    have HBK := Lib.hid hbk
    clear hb q1 q3 hr hcl hck ho hlen hbk
    go_wp2_with fail
    refine (Delete_calls g cap (w.heap.size + 1) name s.pods css (vw w M) W _ hbW.out hg HCL.out HCK.out HR.out hNC.out hl hc1 hc2 HBK.out).mono ?_
    rintro e w2 ⟨hb, g2, cap2, cur, hg2, rfl, hle, hrw, hlc, hkk, hbk2, hcm2⟩
    have q1 := (hb.block _ (blk_lt HQ.out)).trans HQ.out
    have q3 := (hb.block _ (blk_lt HZ.out)).trans HZ.out
    have HB3 := Lib.hid (Below.then HB.out hb)
    have HZ3 := Lib.hid q3
    have HRW := Lib.hid hrw
    have HKK := Lib.hid hkk
    have HBK2 := Lib.hid (And.intro hbk2 hcm2)
    obtain ⟨z, zf⟩ := blk_all q1
    obtain ⟨y, yf⟩ := blk_all q3
    have hl1 := blk_lt q1
    clear hb q1 q3 hrw hkk hmf HB2 HQ2 HZ2 HR hbk2 hcm2
    obtain ⟨n, hn⟩ : ∃ n, (keepL name s.pods).length = n := ⟨_, rfl⟩
    have HN := Lib.hid hn
    rw [hn] at hle hlc
    rw [hn]
    clear hn
    go_wp2
    clear z zf y yf
    have hz3 : (w2.setCell ⟨w.heap.size, 1, none⟩ (.slice (some ⟨g2, 0, none⟩) n cap2)).heap[w.heap.size + 1 + 1]? = some (.cells [Value.slice none 0 0, .slice none 0 0, .slice none 0 0].toArray 26 (0, 0)) := (Below.heap_setCell w2 ⟨w.heap.size, 1, none⟩ _ _ (by show w.heap.size + 1 + 1 ≠ w.heap.size; omega)).trans HZ3.out
    have hset := setCells_all (cs := [.slice A1 s.nodes.length c1, .slice (some ⟨g2, 0, none⟩) n cap2, .slice A3 s.budgets.length c3]) hz3 rfl
    have hbel := Below.setCells (Below.setCell HB3.out (p := ⟨w.heap.size, 1, none⟩) (Nat.le_refl _) (.slice (some ⟨g2, 0, none⟩) n cap2)) (show w.heap.size ≤ w.heap.size + 1 + 1 by omega) [.slice A1 s.nodes.length c1, .slice (some ⟨g2, 0, none⟩) n cap2, .slice A3 s.budgets.length c3] 0
    have hoth := HRW.out.other (w' := (w2.setCell ⟨w.heap.size, 1, none⟩ (.slice (some ⟨g2, 0, none⟩) n cap2)).setCells (w.heap.size + 1 + 1) 0 [.slice A1 s.nodes.length c1, .slice (some ⟨g2, 0, none⟩) n cap2, .slice A3 s.budgets.length c3])
      ((setCells_far _ _ _ _ _ (by omega)).trans (Below.heap_setCell w2 ⟨w.heap.size, 1, none⟩ _ _ (by show g2 ≠ w.heap.size; omega))) (by rw [setCells_size]; simp [World.setCell])
    have hbk3 := HBK2.out.1.other (w' := (w2.setCell ⟨w.heap.size, 1, none⟩ (.slice (some ⟨g2, 0, none⟩) n cap2)).setCells (w.heap.size + 1 + 1) 0 [.slice A1 s.nodes.length c1, .slice (some ⟨g2, 0, none⟩) n cap2, .slice A3 s.budgets.length c3])
      ((setCells_far _ _ _ _ _ (by omega)).trans (Below.heap_setCell w2 ⟨w.heap.size, 1, none⟩ _ _ (by show g2 ≠ w.heap.size; omega)))
    have hkl : (dropS s name).pods = keepL name s.pods := rfl
    have htk := hoth.cut n
    have hown := hbk3.own (base := w.heap.size) (n := n) htk (by rw [List.length_take]; omega) (by omega) hle HBK2.out.2
    refine ret_row1 (cs := [.slice A1 s.nodes.length c1, .slice (some ⟨g2, 0, none⟩) n cap2, .slice A3 s.budgets.length c3]) rfl rfl hset Tryz.underlying26 rfl (by kernel_rfl) rfl ⟨A1, c1, _, A3, c3, rfl, S1.out, S3.out, ⟨cur.take n, ?_, fun j x hx => ?_, ?_⟩, hbel⟩
    · rw [hkl, HN.out, List.length_take]; omega
    · rw [hkl] at hx
      obtain ⟨hj, rfl⟩ := List.getElem?_eq_some_iff.1 hx
      have hjn : j < n := by rw [← HN.out]; exact hj
      exact ⟨cur[j]'(by omega), by rw [List.getElem?_take, if_pos hjn, List.getElem?_eq_getElem (by omega)], HKK.out j hj (by omega)⟩
    · rw [hkl, HN.out]; exact hown
theorem Drop_calls (v : Value) (s : St) (name : ByteArray) (w : World) {M : List Nat} (hv : Kd.state.V (vw w M) v s) (hl : s.pods.length ≤ 1000) (hM : ∀ b ∈ M, b < w.heap.size := by simp) :
    Calls Tryz.prog 33 #[v, .string name] w (DropDone M s name w) := by
  refine (Drop_new v s name w hv hl).mono ?_
  rintro e w' ⟨A1, c1, v2, A3, c3, rfl, s1, s3, ho, hb⟩
  have hlk : (dropS s name).pods.length ≤ s.pods.length := List.length_filter_le _ _
  have hs := ho.S hb (Nat.le_refl _) hM (by omega)
  obtain ⟨A2, c2, rfl, hs⟩ := hs.val
  exact ⟨_, rfl, ⟨_, rfl, A1, c1, A2, c2, A3, c3, rfl, s1.mono (vw_below hb), hs, s3.mono (vw_below hb)⟩, hb⟩
end Go.Proofs.YtnmhicgbdalniaaGreatDoor
namespace Go.Proofs.YtnmhicgbdalniaaGreatDoor
open Go.RowKit Go.Sort

/-! One that comes into a row: what the copies do, in cells. -/
theorem flat_take {z : Nat} {css : List (List Value)} (hl : ∀ c ∈ css, c.length = z) {i : Nat} (hi : i ≤ css.length) : (css.take i).flatten = css.flatten.take (i * z) := by
  have h1 : (css.take i).flatten.length = i * z := by rw [flatten_len _ (fun c hc => hl c (List.mem_of_mem_take hc)), List.length_take]; congr 1; omega
  have h2 : css.flatten = (css.take i).flatten ++ (css.drop i).flatten := by rw [← List.flatten_append, List.take_append_drop]
  rw [h2, List.take_left' h1]
theorem flat_drop {z : Nat} {css : List (List Value)} (hl : ∀ c ∈ css, c.length = z) {i : Nat} (hi : i ≤ css.length) : (css.drop i).flatten = css.flatten.drop (i * z) := by
  have h1 : (css.take i).flatten.length = i * z := by rw [flatten_len _ (fun c hc => hl c (List.mem_of_mem_take hc)), List.length_take]; congr 1; omega
  have h2 : css.flatten = (css.take i).flatten ++ (css.drop i).flatten := by rw [← List.flatten_append, List.take_append_drop]
  rw [h2, List.drop_left' h1]
theorem Blk.ownF {w : World} {base g z n cap : Nat} {T : TypeId} {xs : List Value} (h : Blk w g T (cap * z)) (hl : xs.length = n * z) (hc : ∀ j u, xs[j]? = some u → w.cell? ⟨g, j, none⟩ = some u) (hb : base ≤ g) (h1 : n ≤ cap) (h2 : cap ≤ maxLen) : w.ownsRow base T z (.slice (some ⟨g, 0, none⟩) n cap) n xs := by
  obtain ⟨cur, k1, k2⟩ := h
  refine ⟨hl, .inr ⟨g, cap, cur, rfl, hb, k1, h1, h2, k2, ?_⟩⟩
  have hnc : n * z ≤ cap * z := Nat.mul_le_mul_right z h1
  refine List.ext_getElem? fun j => ?_
  rcases Nat.lt_or_ge j (n * z) with hj | hj
  · have h5 := hc j _ (List.getElem?_eq_getElem (by omega))
    rw [cell_of_row w g _ _ _ _ k1] at h5
    rw [List.getElem?_take, if_pos hj, List.getElem?_eq_getElem (by omega : j < xs.length), ← h5]
    simp
  · rw [List.getElem?_eq_none (by rw [List.length_take]; omega), List.getElem?_eq_none (by omega)]
theorem own_flat {w : World} {base g z n cap : Nat} {T : TypeId} {xs : List Value} (h : w.ownsRow base T z (.slice (some ⟨g, 0, none⟩) n cap) n xs) : Blk w g T (cap * z) ∧ base ≤ g ∧ n ≤ cap ∧ cap ≤ maxLen ∧ xs.length = n * z ∧ ∀ j u, xs[j]? = some u → w.cell? ⟨g, j, none⟩ = some u := by
  obtain ⟨h1, ⟨e1, -⟩ | ⟨g', cap', cur, e1, hb, hh, hnc, hcm, hs, ht⟩⟩ := h
  · cases e1
  · injection e1 with a1 a2 a3
    injection a1 with a1
    injection a1 with a1
    subst a1 a3
    refine ⟨⟨cur, hh, hs⟩, hb, hnc, hcm, h1, fun j u hu => ?_⟩
    have hj := (List.getElem?_eq_some_iff.1 hu).1
    rw [← ht, List.getElem?_take] at hu
    split at hu
    · rw [cell_of_row w g _ _ _ _ hh]
      simpa using hu
    · cases hu
theorem Blk.some {w : World} {g n : Nat} {T : TypeId} (h : Blk w g T n) {j : Nat} (hj : j < n) : (w.cell? ⟨g, j, none⟩).isSome = true := by
  obtain ⟨cur, h1, h2⟩ := h
  rw [cell_of_row w g _ _ _ _ h1, Array.getElem?_eq_getElem (by omega)]; rfl
theorem Blk.free {w : World} {g n : Nat} {T : TypeId} (h : Blk w g T n) (j : Nat) : w.frozen? ⟨g, j, none⟩ = false := by
  obtain ⟨cur, h1, h2⟩ := h
  simp [World.frozen?, h1]
/-- What lies in a row behind two copies: the end put on by one, then the new one put in; or the other way round. -/
theorem ins_cells {w : World} {g a m : Nat} {xs cx : List Value} {T : TypeId} {N : Nat} (hb : Blk w g T N) (ha : a ≤ xs.length) (hN : xs.length + cx.length ≤ N)
    (hc : ∀ j u, (xs.take a)[j]? = some u → w.cell? ⟨g, j, none⟩ = some u) (hm : m = a + cx.length) :
    (∀ j u, (xs.take a ++ cx ++ xs.drop a)[j]? = some u → ((w.setCells g m (xs.drop a)).setCells g a cx).cell? ⟨g, j, none⟩ = some u) ∧
    (∀ j u, (xs.take a ++ cx ++ xs.drop a)[j]? = some u → ((w.setCells g a cx).setCells g m (xs.drop a)).cell? ⟨g, j, none⟩ = some u) := by
  subst hm
  have hta : (xs.take a).length = a := by rw [List.length_take]; omega
  have hda : (xs.drop a).length = xs.length - a := List.length_drop
  have b1 : ∀ cs o, Blk (w.setCells g o cs) g T N := fun cs o => Blk.setCells g cs o hb
  have key : ∀ j u, (xs.take a ++ cx ++ xs.drop a)[j]? = some u → (j < a ∧ (xs.take a)[j]? = some u) ∨ (∃ i, ∃ h : i < cx.length, j = a + i ∧ u = cx[i]) ∨ ∃ i, ∃ h : i < (xs.drop a).length, j = a + cx.length + i ∧ u = (xs.drop a)[i] := fun j u hu => by
    rcases Nat.lt_or_ge j (a + cx.length) with h | h
    · rw [List.getElem?_append_left (by rw [List.length_append, hta]; exact h)] at hu
      rcases Nat.lt_or_ge j a with h2 | h2
      · rw [List.getElem?_append_left (by rw [hta]; exact h2)] at hu
        exact .inl ⟨h2, hu⟩
      · rw [List.getElem?_append_right (by rw [hta]; exact h2), hta] at hu
        obtain ⟨h3, h4⟩ := List.getElem?_eq_some_iff.1 hu
        exact .inr (.inl ⟨j - a, h3, by omega, h4.symm⟩)
    · rw [List.getElem?_append_right (by rw [List.length_append, hta]; exact h), List.length_append, hta] at hu
      obtain ⟨h3, h4⟩ := List.getElem?_eq_some_iff.1 hu
      exact .inr (.inr ⟨j - (a + cx.length), h3, by omega, h4.symm⟩)
  constructor
  · intro j u hu
    rcases key j u hu with ⟨h1, h2⟩ | ⟨i, h, rfl, rfl⟩ | ⟨i, h, rfl, rfl⟩
    · rw [World.cell?_setCells_out g cx a _ _ (fun _ _ => .inl h1), World.cell?_setCells_out g _ _ _ _ (fun _ _ => .inl (by show j < a + cx.length; omega))]
      exact hc j u h2
    · exact World.cell?_setCells_in g cx a _ (fun t ht => (b1 _ _).some (by omega)) i h
    · rw [World.cell?_setCells_out g cx a _ _ (fun _ _ => .inr (by show a + cx.length ≤ a + cx.length + i; omega))]
      exact World.cell?_setCells_in g _ _ w (fun t ht => hb.some (by omega)) i h
  · intro j u hu
    rcases key j u hu with ⟨h1, h2⟩ | ⟨i, h, rfl, rfl⟩ | ⟨i, h, rfl, rfl⟩
    · rw [World.cell?_setCells_out g _ _ _ _ (fun _ _ => .inl (by show j < a + cx.length; omega)), World.cell?_setCells_out g cx a _ _ (fun _ _ => .inl h1)]
      exact hc j u h2
    · rw [World.cell?_setCells_out g _ _ _ _ (fun _ _ => .inl (by show a + i < a + cx.length; omega))]
      exact World.cell?_setCells_in g cx a _ (fun t ht => hb.some (by omega)) i h
    · exact World.cell?_setCells_in g _ _ _ (fun t ht => (b1 _ _).some (by omega)) i h
/-- 'copy' of wide elements. -/
theorem run_copy_wide {P : Program} (w : World) (dT sT ty elem : TypeId) (z : Nat) (b o dLen dCap : Nat) (a : Addr) (sLen sCap : Nat) (cs : List Value)
    (hu : P.underlying dT = some (.slice elem)) (hs : (P.info? elem).map (·.size) = some z) (hn : cs.length = Nat.min sLen dLen * z)
    (hsrc : ∀ j v, cs[j]? = some v → w.cell? (a.add j) = some v) (hc : ∀ j, j < cs.length → (w.cell? ⟨b, o + j, none⟩).isSome = true) (hf : ∀ j, j < cs.length → w.frozen? ⟨b, o + j, none⟩ = false) (h1 : ∀ v ∈ cs, v.oneCell' = true) :
    (Builtin.copy_ #[dT, sT] ty #[.slice (some ⟨b, o, none⟩) dLen dCap, .slice (some a) sLen sCap]).run P w = .ok (goInt (Nat.min sLen dLen)) (w.setCells b o cs) := by
  have hl := run_loadCells_list (P := P) w a cs hsrc
  have hst := run_storeCells_cells (P := P) b o cs 0 w (by simpa using hc) (by simpa using hf) h1
  cases hq : P.info? elem with
  | none => simp [hq] at hs
  | some i =>
    have hi : i.size = z := by simpa [hq] using hs
    simp [Builtin.copy_, run_underlying hu, Builtin.lenOf, Builtin.firstCells, sizeOf, typeInfo, hq, hi, ← hn, hl, hst]
end Go.Proofs.YtnmhicgbdalniaaGreatDoor
namespace Go.Proofs.YtnmhicgbdalniaaGreatDoor
open Go.RowKit Go.Sort Go.Lib

/-! slices.Insert of one pod. -/
def InsDone (base n : Nat) (xs' : List Value) (w : World) (e : Ending) (w' : World) : Prop := ∃ v', e = .returned v' ∧ w'.ownsRow base 35 11 v' (n + 1) xs' ∧ Below base w w'
theorem Blk.drew {w : World} {g n : Nat} {T : TypeId} (h : Blk w g T n) : Blk w.drew g T n := h
theorem below_drew {B : Nat} {a w : World} (h : Below B a w) : Below B a w.drew := h.trans ⟨rfl, rfl, rfl, Nat.le_refl _, fun _ _ => rfl⟩
theorem ins_done {base n G a m N : Nat} {xs cx : List Value} {w U : World} (hb : Below base w U) (hk : Blk U N 35 (G * 11)) (hN : base ≤ N) (h1 : n + 1 ≤ G) (h2 : G ≤ maxLen) (hx : xs.length = n * 11) (hcx : cx.length = 11) (ha : a ≤ xs.length) (hm : m = a + cx.length)
    (hc : ∀ j u, (xs.take a)[j]? = some u → U.cell? ⟨N, j, none⟩ = some u) :
    InsDone base n (xs.take a ++ cx ++ xs.drop a) w (.returned (.slice (some ⟨N, 0, none⟩) (n + 1) G)) ((U.setCells N m (xs.drop a)).setCells N a cx) ∧
    InsDone base n (xs.take a ++ cx ++ xs.drop a) w (.returned (.slice (some ⟨N, 0, none⟩) (n + 1) G)) ((U.setCells N a cx).setCells N m (xs.drop a)) := by
  have hG : (n + 1) * 11 ≤ G * 11 := Nat.mul_le_mul_right 11 h1
  obtain ⟨c1, c2⟩ := ins_cells hk ha (by rw [hx, hcx]; omega) hc hm
  have hl : (xs.take a ++ cx ++ xs.drop a).length = (n + 1) * 11 := by
    rw [List.length_append, List.length_append, List.length_take, List.length_drop, hcx]; omega
  exact ⟨⟨_, rfl, Blk.ownF (Blk.setCells N _ _ (Blk.setCells N _ _ hk)) hl c1 hN h1 h2, Below.setCells (Below.setCells hb hN _ _) hN _ _⟩,
    ⟨_, rfl, Blk.ownF (Blk.setCells N _ _ (Blk.setCells N _ _ hk)) hl c2 hN h1 h2, Below.setCells (Below.setCells hb hN _ _) hN _ _⟩⟩
theorem pod_size : (Tryz.prog.info? 35).map (·.size) = some 11 := by kernel_rfl
theorem overlaps_no (w : World) (vb g o lb cb : Nat) (T : TypeId) (cx : List Value) (G : Nat) (hvb : w.heap[vb]? = some (.cells cx.toArray T (0, 0))) (hne : vb ≠ g) (hg : Blk w g 35 G) (hG : G ≠ 0) :
    (callFunc 202 #[.slice (some ⟨vb, 0, none⟩) 1 1, .slice (some ⟨g, o, none⟩) lb cb]).run Tryz.prog w = .ok (.value (.bool false)) w := by
  obtain ⟨cur, k1, k2⟩ := hg
  rw [run_callFunc_extern Tryz.func202 (by kernel_rfl) (by kernel_rfl) (by kernel_rfl) (e := Extern.SlicesOverlaps.overlaps #[23, 23] #[4]) (by kernel_rfl),
    Lib.run_overlaps_apart w 23 4 35 Tryz.underlying23 11 Tryz.sizeOf35 ⟨vb, 0, none⟩ ⟨g, o, none⟩ 1 1 lb cb hne T 35 cx.toArray.size cur.size (by simp [World.shape?, hvb]) (by simp [World.shape?, k1]) (by omega) (by simp [World.frozen?, hvb]) (by simp [World.frozen?, hvb])]
  rfl
set_option maxHeartbeats 4000000 in
set_option maxRecDepth 100000 in
theorem Insert_shift (base g n c i vb : Nat) (T : TypeId) (xs cx : List Value) (w : World) (hown : w.ownsRow base 35 11 (.slice (some ⟨g, 0, none⟩) n c) n xs) (hi : i < n) (hroom : n + 1 ≤ c) (hcx : cx.length = 11) (h1 : ∀ u ∈ xs, u.oneCell' = true) (h1x : ∀ u ∈ cx, u.oneCell' = true)
    (hvb : w.heap[vb]? = some (.cells cx.toArray T (0, 0))) (hne : vb ≠ g) :
    Calls Tryz.prog 121 #[.slice (some ⟨g, 0, none⟩) n c, .int .i64 i, .slice (some ⟨vb, 0, none⟩) 1 1] w (InsDone base n (xs.take (i * 11) ++ cx ++ xs.drop (i * 11)) w) := by
  obtain ⟨hblk, hbg, hnc, hcm, hxl, hxc⟩ := own_flat hown
  have hcm' := hcm
  unfold maxLen at hcm'
  have hin11 : i * 11 + 11 ≤ n * 11 := by have := Nat.mul_le_mul_right 11 (show i + 1 ≤ n by omega); omega
  have hnc11 : (n + 1) * 11 ≤ c * 11 := Nat.mul_le_mul_right 11 hroom
  have hgl : g < w.heap.size := by obtain ⟨_, k, _⟩ := hblk; exact blk_lt k
  have hov : ∀ lb cb, (callFunc 202 #[.slice (some ⟨vb, 0, none⟩) 1 1, .slice (some ⟨g, (i + 1) * 11, none⟩) lb cb]).run Tryz.prog w = .ok (.value (.bool false)) w := fun lb cb => overlaps_no w vb g _ lb cb T cx _ hvb hne hblk (by omega)
  have hz2 : ¬ ((i : Int) = (n : Int)) := by omega
  have hdl : (xs.drop (i * 11)).length = (n - i) * 11 := by rw [List.length_drop, hxl, Nat.sub_mul]
  have hw1 : IntKind.i64.wrap ((i : Int) + 1) = (i : Int) + 1 := by rw [IntKind.wrap_i64]; omega
  have hb1 : (0 : Int) ≤ (i : Int) + 1 := by omega
  have htn : ((i : Int) + 1).toNat = i + 1 := by omega
  have hb2 : ¬ (c = i + 1) := by omega
  have hb3 : (i : Int) ≤ (n : Int) + 1 := by omega
  have hb4 : ¬ (c = i) := by omega
  have hb5 : ¬ ((c : Int) < (n : Int) + 1) := by omega
  have hin : i ≤ n := by omega
  have hb6 : (i : Int) + 1 ≤ (n : Int) + 1 := by omega
  have mixed : Tryz.prog.follows .mixedOrders = true := by kernel_rfl
  have hcp1 : ∀ ty dc sc, (Builtin.copy_ #[23, 23] ty #[.slice (some ⟨g, (i + 1) * 11, none⟩) (n - i) dc, .slice (some ⟨g, i * 11, none⟩) (n + 1 - i) sc]).run Tryz.prog w.drew = .ok (goInt (Nat.min (n + 1 - i) (n - i))) (w.drew.setCells g ((i + 1) * 11) (xs.drop (i * 11))) := fun ty dc sc =>
    run_copy_wide w.drew _ _ ty 35 11 g ((i + 1) * 11) (n - i) dc ⟨g, i * 11, none⟩ (n + 1 - i) sc (xs.drop (i * 11)) Tryz.underlying23 pod_size (by rw [hdl]; congr 1; simp only [Nat.min_def]; split <;> omega)
      (fun j v hj => by rw [Kd.addr_add]; exact hxc (i * 11 + j) v (by rwa [List.getElem?_drop] at hj))
      (fun j hj => hblk.some (by rw [hdl] at hj; omega)) (fun j hj => hblk.free _) (fun v hv => h1 v (List.mem_of_mem_drop hv))
  obtain ⟨W1, hW1⟩ : ∃ W1, W1 = w.drew.setCells g ((i + 1) * 11) (xs.drop (i * 11)) := ⟨_, rfl⟩
  have hbk1 : Blk W1 g 35 (c * 11) := by rw [hW1]; exact Blk.setCells g _ _ hblk
  have hvb1 : W1.heap[vb]? = some (.cells cx.toArray T (0, 0)) := by rw [hW1]; exact (setCells_far g _ _ _ vb hne).trans hvb
  have hcp2 : ∀ ty dc, (Builtin.copy_ #[23, 23] ty #[.slice (some ⟨g, i * 11, none⟩) (n + 1 - i) dc, .slice (some ⟨vb, 0, none⟩) 1 1]).run Tryz.prog W1 = .ok (goInt (Nat.min 1 (n + 1 - i))) (W1.setCells g (i * 11) cx) := fun ty dc =>
    run_copy_wide W1 _ _ ty 35 11 g (i * 11) (n + 1 - i) dc ⟨vb, 0, none⟩ 1 1 cx Tryz.underlying23 pod_size (by rw [hcx]; simp only [Nat.min_def]; split <;> omega)
      (fun j v hj => by have := World.news_of_block hvb1 j v; exact this (by simpa using hj))
      (fun j hj => hbk1.some (by omega)) (fun j hj => hbk1.free _) h1x
  rw [← hW1] at hcp1
  have HFIN : Hid (InsDone base n (xs.take (i * 11) ++ cx ++ xs.drop (i * 11)) w (.returned (.slice (some ⟨g, 0, none⟩) (n + 1) c)) (W1.setCells g (i * 11) cx)) := by
    rw [hW1]
    exact (ins_done (U := w.drew) (below_drew (Below.refl base w)) hblk.drew hbg hroom hcm hxl hcx (by omega) (by rw [hcx]; omega) (fun j u hj => by
      rw [List.getElem?_take] at hj
      split at hj
      · exact hxc j u hj
      · cases hj)).1
  obtain ⟨xs', hxs⟩ : ∃ xs', xs.take (i * 11) ++ cx ++ xs.drop (i * 11) = xs' := ⟨_, rfl⟩
  rw [hxs] at HFIN ⊢
  clear hW1 hbk1 hvb1 hxs
  go_enter Tryz.func121, Tryz.ntmps121
  go_wp2_with (simp only [hov])
  go_region_law_o (refine step_copy_runI rfl _ _ 23 23 rfl _ _ (by simp [Act.eval, Act.put]) (by simp [Act.eval, Act.put]) (hcp1 _ _ _) ?_)
  go_wp2_with (at_builtin; refine wpList_copy_runI _ rfl _ _ 23 23 rfl _ _ rfl rfl (hcp2 _ _) ?_)
  go_ret
  exact HFIN.out
set_option maxHeartbeats 4000000 in
set_option maxRecDepth 100000 in
theorem Insert_end (base n c vb : Nat) (A : Option Addr) (T : TypeId) (xs cx : List Value) (w : World) (hown : w.ownsRow base 35 11 (.slice A n c) n xs) (hcx : cx.length = 11) (h1x : ∀ u ∈ cx, u.oneCell' = true)
    (hvb : w.heap[vb]? = some (.cells cx.toArray T (0, 0))) (hb : base ≤ w.heap.size) (hn : n ≤ 1000) :
    Calls Tryz.prog 121 #[.slice A n c, .int .i64 n, .slice (some ⟨vb, 0, none⟩) 1 1] w (InsDone base n (xs ++ cx) w) := by
  obtain ⟨i0, hi, hz0, hz1, hz2⟩ := info_parts info_pod
  have mixed : Tryz.prog.follows .mixedOrders = true := by kernel_rfl
  have HOWN := Lib.hid hown
  have HNEWS : Hid (∀ ad, (some ⟨vb, 0, none⟩ : Option Addr) = some ad → ∀ j u, cx[j]? = some u → w.cell? (ad.add j) = some u) := fun ad had j u hu => by
    cases had
    have := World.news_of_block hvb j u
    exact this (by simpa using hu)
  have HONE := Lib.hid h1x
  have HCX := Lib.hid hcx
  clear hvb h1x hcx
  have key : ∀ v' w', w'.ownsRow base 35 11 v' (n + 1) (xs ++ cx) → w.grownBy w' (Value.slice A n c).ownBlock → InsDone base n (xs ++ cx) w (.returned v') w' := fun v' w' h2 h3 =>
    ⟨v', rfl, h2, (Below.refl base w).grown h3 hb (fun q hq => (HOWN.out.lt q hq).1)⟩
  have HKEY := Lib.hid key
  clear key
  rcases hown.2 with ⟨e1, e2⟩ | ⟨g, cap, cur, e1, -, -, hnc, hcm, -, -⟩
  · subst e2
    cases e1
    clear hown
    go_enter Tryz.func121, Tryz.ntmps121
    go_wp2_with (at_builtin; refine wpList_app _ base 23 35 i0 _ 11 184 Tryz.underlying23 hi hz0 hz1 hz2 rfl (by decide) _ _ xs HOWN.out (some ⟨vb, 0, none⟩) 1 1 cx (by rw [HCX.out]) (fun e => by cases e) HNEWS.out HONE.out (by simp only [maxLen]; omega) (by omega) hb _ _ rfl rfl rfl rfl ?_)
    intro v' w' h2 h3 _
    have HF := Lib.hid (HKEY.out v' w' h2 h3)
    clear h2 h3
    go_wp2
    go_ret
    exact HF.out
  · cases e1
    clear hown
    unfold maxLen at hcm
    by_cases hcn : c = n
    · subst hcn
      go_enter Tryz.func121, Tryz.ntmps121
      go_wp2_with (at_builtin; refine wpList_app _ base 23 35 i0 _ 11 184 Tryz.underlying23 hi hz0 hz1 hz2 rfl (by decide) _ _ xs HOWN.out (some ⟨vb, 0, none⟩) 1 1 cx (by rw [HCX.out]) (fun e => by cases e) HNEWS.out HONE.out (by simp only [maxLen]; omega) (by omega) hb _ _ rfl rfl rfl rfl ?_)
      intro v' w' h2 h3 _
      have HF := Lib.hid (HKEY.out v' w' h2 h3)
      clear h2 h3
      go_wp2
      go_ret
      exact HF.out
    · go_enter Tryz.func121, Tryz.ntmps121
      go_wp2_with (at_builtin; refine wpList_app _ base 23 35 i0 _ 11 184 Tryz.underlying23 hi hz0 hz1 hz2 rfl (by decide) _ _ xs HOWN.out (some ⟨vb, 0, none⟩) 1 1 cx (by rw [HCX.out]) (fun e => by cases e) HNEWS.out HONE.out (by simp only [maxLen]; omega) (by omega) hb _ _ rfl rfl rfl rfl ?_)
      intro v' w' h2 h3 _
      have HF := Lib.hid (HKEY.out v' w' h2 h3)
      clear h2 h3
      go_wp2
      go_ret
      exact HF.out
set_option maxHeartbeats 4000000 in
set_option maxRecDepth 100000 in
theorem Insert_grow (base g n c i vb : Nat) (T : TypeId) (xs cx : List Value) (w : World) (hown : w.ownsRow base 35 11 (.slice (some ⟨g, 0, none⟩) n c) n xs) (hi : i < n) (hroom : c < n + 1) (hcx : cx.length = 11) (h1 : ∀ u ∈ xs, u.oneCell' = true) (h1x : ∀ u ∈ cx, u.oneCell' = true)
    (hvb : w.heap[vb]? = some (.cells cx.toArray T (0, 0))) (hb : base ≤ w.heap.size) (hn : n ≤ 1000) :
    Calls Tryz.prog 121 #[.slice (some ⟨g, 0, none⟩) n c, .int .i64 i, .slice (some ⟨vb, 0, none⟩) 1 1] w (InsDone base n (xs.take (i * 11) ++ cx ++ xs.drop (i * 11)) w) := by
  obtain ⟨i0, hi0, hz0, hzs, hzb⟩ := info_parts info_pod
  obtain ⟨hblk, hbg, hnc, hcm, hxl, hxc⟩ := own_flat hown
  obtain rfl : c = n := by omega
  have hin11 : i * 11 + 11 ≤ c * 11 := by have := Nat.mul_le_mul_right 11 (show i + 1 ≤ c by omega); omega
  have hgl : g < w.heap.size := by obtain ⟨_, k, _⟩ := hblk; exact blk_lt k
  have hvw := blk_lt hvb
  have mixed : Tryz.prog.follows .mixedOrders = true := by kernel_rfl
  have hz2 : ¬ ((i : Int) = (c : Int)) := by omega
  have hz3 : (c : Int) < (c : Int) + 1 := by omega
  have hkk : (c : Int) + 1 - (i : Int) = ((c + 1 - i : Nat) : Int) := by omega
  have hik : i + (c + 1 - i) = c + 1 := by omega
  have hold : (Builtin.firstCells i0.size i (.slice (some ⟨g, 0, none⟩) i c)).run Tryz.prog w.drew = .ok (xs.take (i * 11)).toArray w.drew := by
    rw [hzs]
    exact run_firstCells_some w.drew 11 i ⟨g, 0, none⟩ i c (xs.take (i * 11)) (by rw [List.length_take]; omega) (fun j v hj => by
      rw [Kd.addr_add, Nat.zero_add]
      rw [List.getElem?_take] at hj
      split at hj
      · exact hxc j v hj
      · cases hj)
  obtain ⟨zc, hzc⟩ : ∃ zc : Array Value, (Value.agg #[.string ⟨#[]⟩, .string ⟨#[]⟩, .int .i64 0, .slice none 0 0, .slice none 0 0, .slice none 0 0, .slice none 0 0, .string ⟨#[]⟩, .int .i64 0, .string ⟨#[]⟩, .bool false]).cells = zc := ⟨_, rfl⟩
  have hzl : zc.size = 11 := by rw [← hzc]; rfl
  have hrz : ∀ ty, (Builtin.append_ #[23, 3] ty #[.slice (some ⟨g, 0, none⟩) i c, .int .i64 ((c : Int) + 1 - (i : Int))]).run Tryz.prog w =
      .ok (.slice (some ⟨w.heap.size, 0, none⟩) (c + 1) (grownCap w (c + 1) c 35)) (w.drew.alloc (.cells ((xs.take (i * 11)).toArray ++ Builtin.zeroCells zc (c + 1 - i) ++ Builtin.zeroCells zc (grownCap w (c + 1) c 35 - (c + 1))) 35)) := fun ty => by
    have h := Lib.run_append_grow_zeros w 23 3 ty 35 i0 _ .i64 .i64 Tryz.underlying23 Tryz.underlying3 hi0 hz0 (some ⟨g, 0, none⟩) i c (xs.take (i * 11)) hold (c + 1 - i) (by omega) (by omega) (by omega) (by omega) (by rw [hzb]; omega) (by rw [hzb, hik]; exact growslice_fits hroom (by omega))
    rw [hik, hzc] at h
    rw [hkk]
    exact h
  obtain ⟨G, hG⟩ : ∃ G, G = grownCap w (c + 1) c 35 := ⟨_, rfl⟩
  have hGn : c + 1 ≤ G := by rw [hG]; exact grownCap_ge w _ _ _
  have hGm : G ≤ maxLen := by rw [hG]; exact grownCap_le_maxLen w (c + 1) c 35 (by unfold maxLen; omega)
  have hGm' := hGm
  unfold maxLen at hGm'
  obtain ⟨ROW, hROW⟩ : ∃ ROW : Array Value, ROW = (xs.take (i * 11)).toArray ++ Builtin.zeroCells zc (c + 1 - i) ++ Builtin.zeroCells zc (G - (c + 1)) := ⟨_, rfl⟩
  rw [← hG] at hrz
  rw [← hROW] at hrz
  have hRl : ROW.size = G * 11 := by
    rw [hROW]
    simp only [Array.size_append, List.size_toArray, List.length_take, Builtin.zeroCells, Array.size_map, Array.size_range, hzl]
    have e1 : G * 11 = i * 11 + (c + 1 - i) * 11 + (G - (c + 1)) * 11 := by rw [← Nat.add_mul, ← Nat.add_mul]; congr 1; omega
    omega
  obtain ⟨U0, hU0⟩ : ∃ U0, U0 = (w.alloc (.cells ROW 35)).drew := ⟨_, rfl⟩
  have hU1 : w.drew.alloc (.cells ROW 35) = U0 := by rw [hU0]; rfl
  rw [hU1] at hrz
  have hbk : Blk U0 w.heap.size 35 (G * 11) := ⟨ROW, by rw [hU0]; exact blk_last _ _, hRl⟩
  have hUv : U0.heap[vb]? = some (.cells cx.toArray T (0, 0)) := by rw [hU0]; exact (blk_old w _ hvw).trans hvb
  have hUb : Below base w U0 := by rw [hU0]; exact below_drew ((Below.refl base w).alloc hb _)
  have hUx : ∀ j u, xs[j]? = some u → U0.cell? ⟨g, j, none⟩ = some u := fun j u hj => by rw [hU0]; exact Lib.cell?_alloc_some _ (hxc j u hj)
  have hUr : ∀ j u, (xs.take (i * 11))[j]? = some u → U0.cell? ⟨w.heap.size, j, none⟩ = some u := fun j u hj => by
    have hl := (List.getElem?_eq_some_iff.1 hj).1
    have h9 : U0.cell? ⟨w.heap.size, j, none⟩ = ROW[j]? := by rw [hU0]; exact cell_of_row _ _ _ _ _ _ (blk_last w _)
    rw [h9, hROW, Array.getElem?_append_left (by simp only [Array.size_append, List.size_toArray]; omega), Array.getElem?_append_left (by simpa using hl)]
    simpa using hj
  have hcpA : ∀ ty dc, (Builtin.copy_ #[23, 23] ty #[.slice (some ⟨w.heap.size, i * 11, none⟩) (c + 1 - i) dc, .slice (some ⟨vb, 0, none⟩) 1 1]).run Tryz.prog U0 = .ok (goInt (Nat.min 1 (c + 1 - i))) (U0.setCells w.heap.size (i * 11) cx) := fun ty dc =>
    run_copy_wide U0 _ _ ty 35 11 w.heap.size (i * 11) (c + 1 - i) dc ⟨vb, 0, none⟩ 1 1 cx Tryz.underlying23 pod_size (by rw [hcx]; simp only [Nat.min_def]; split <;> omega)
      (fun j v hj => by have := World.news_of_block hUv j v; exact this (by simpa using hj))
      (fun j hj => hbk.some (by omega)) (fun j hj => hbk.free _) h1x
  have hdl : (xs.drop (i * 11)).length = (c - i) * 11 := by rw [List.length_drop, hxl, Nat.sub_mul]
  obtain ⟨U1, hU2⟩ : ∃ U1, U1 = U0.setCells w.heap.size (i * 11) cx := ⟨_, rfl⟩
  have hbk1 : Blk U1 w.heap.size 35 (G * 11) := by rw [hU2]; exact Blk.setCells _ _ _ hbk
  have hU1x : ∀ j u, xs[j]? = some u → U1.cell? ⟨g, j, none⟩ = some u := fun j u hj => by
    rw [hU2, World.cell?_setCells_out _ _ _ _ _ (fun h _ => by simp only at h; omega)]
    exact hUx j u hj
  have hcpB : ∀ ty dc sc, (Builtin.copy_ #[23, 23] ty #[.slice (some ⟨w.heap.size, (i + 1) * 11, none⟩) (c - i) dc, .slice (some ⟨g, i * 11, none⟩) (c - i) sc]).run Tryz.prog U1.drew = .ok (goInt (Nat.min (c - i) (c - i))) (U1.drew.setCells w.heap.size ((i + 1) * 11) (xs.drop (i * 11))) := fun ty dc sc =>
    run_copy_wide U1.drew _ _ ty 35 11 w.heap.size ((i + 1) * 11) (c - i) dc ⟨g, i * 11, none⟩ (c - i) sc (xs.drop (i * 11)) Tryz.underlying23 pod_size (by rw [hdl]; congr 1; simp only [Nat.min_def]; split <;> omega)
      (fun j v hj => by rw [Kd.addr_add]; exact hU1x (i * 11 + j) v (by rwa [List.getElem?_drop] at hj))
      (fun j hj => hbk1.some (by rw [hdl] at hj; have := Nat.mul_le_mul_right 11 hGn; omega)) (fun j hj => hbk1.free _) (fun v hv => h1 v (List.mem_of_mem_drop hv))
  have HFIN : Hid (InsDone base c (xs.take (i * 11) ++ cx ++ xs.drop (i * 11)) w (.returned (.slice (some ⟨w.heap.size, 0, none⟩) (c + 1) G)) (U1.drew.setCells w.heap.size ((i + 1) * 11) (xs.drop (i * 11)))) := by
    rw [hU2, Go.Proofs.drew_setCells]
    exact (ins_done (U := U0.drew) (below_drew hUb) hbk.drew hb hGn hGm hxl hcx (by omega) (by rw [hcx]; omega) hUr).2
  rw [← hU2] at hcpA
  obtain ⟨xs', hxs⟩ : ∃ xs', xs.take (i * 11) ++ cx ++ xs.drop (i * 11) = xs' := ⟨_, rfl⟩
  rw [hxs] at HFIN ⊢
  have hw1 : IntKind.i64.wrap ((i : Int) + 1) = (i : Int) + 1 := by rw [IntKind.wrap_i64]; omega
  have hb1 : (0 : Int) ≤ (i : Int) + 1 := by omega
  have htn : ((i : Int) + 1).toNat = i + 1 := by omega
  have hin : i ≤ c := by omega
  have hGi : ¬ (G = i) := by omega
  have hGim : ¬ (G = i + 1) := by omega
  have hci : ¬ (c = i) := by omega
  have hb6 : (i : Int) + 1 ≤ (c : Int) + 1 := by omega
  clear hkk hik hold hROW hG hRl hxs hU2 hU1 hU0 hbk hbk1 hUv hUb hUx hUr hU1x hown hblk hxc hvb h1 h1x
  go_enter Tryz.func121, Tryz.ntmps121
  go_wp2_with (first
    | (at_builtin; refine Lib.wpList_append_run _ rfl _ _ _ _ rfl _ _ rfl rfl _ _ (hrz _) ?_)
    | (at_builtin; refine wpList_copy_runI _ rfl _ _ 23 23 rfl _ _ rfl rfl (hcpA _ _) ?_))
  go_region_law_o (refine step_copy_runI rfl _ _ 23 23 rfl _ _ (by simp [Act.eval, Act.put]) (by simp [Act.eval, Act.put]) (hcpB _ _ _) ?_)
  go_wp2
  go_ret
  exact HFIN.out
end Go.Proofs.YtnmhicgbdalniaaGreatDoor
namespace Go.Proofs.YtnmhicgbdalniaaGreatDoor
open Go.RowKit Go.Sort

/-! A piece of a row: its elements' cells lie there; append of a piece onto a row of the call's own. -/
namespace Kd
variable {α : Type}
def Piece (d : Kd α) (w0 : World) (M : List Nat) (w : World) (A : Option Addr) (m : Nat) (ys : List α) : Prop :=
  ys.length = m ∧ (A = none → m = 0) ∧ ∃ css : List (List Value), css.length = ys.length ∧ (∀ (j : Nat) (x : α), ys[j]? = some x → ∃ cs, css[j]? = some cs ∧ d.K (vw w0 M) x cs) ∧ ∀ ad, A = some ad → ∀ j u, css.flatten[j]? = some u → w.cell? (ad.add j) = some u
theorem Piece.below {d : Kd α} {w0 w w' : World} {M : List Nat} {A : Option Addr} {m : Nat} {ys : List α} (h : d.Piece w0 M w A m ys) (hb : Below w.heap.size w w') : d.Piece w0 M w' A m ys := by
  obtain ⟨h1, h2, css, h3, h4, h5⟩ := h
  exact ⟨h1, h2, css, h3, h4, fun ad had j u hu => keep_cell hb (h5 ad had j u hu)⟩
theorem Piece.nil (d : Kd α) (w0 : World) (M : List Nat) (w : World) (A : Option Addr) : d.Piece w0 M w A 0 [] := ⟨rfl, fun _ => rfl, [], rfl, fun j x h => by simp at h, fun ad _ j u hu => by simp at hu⟩
theorem Piece.len_lists {d : Kd α} {w0 : World} {M : List Nat} {ys : List α} {css : List (List Value)} (h1 : css.length = ys.length) (h2 : ∀ (j : Nat) (x : α), ys[j]? = some x → ∃ cs, css[j]? = some cs ∧ d.K (vw w0 M) x cs) : ∀ c ∈ css, c.length = d.sz := fun c hc => by
  obtain ⟨j, hj, rfl⟩ := List.getElem_of_mem hc
  obtain ⟨cs, a, b⟩ := h2 j ys[j] (List.getElem?_eq_getElem (by omega))
  rw [List.getElem?_eq_getElem hj] at a
  cases a
  exact d.len b
/-- The rows' form: nothing, or a block of the call's own with as much room as is told. -/
theorem Row0.form {d : Kd α} {w0 w : World} {M : List Nat} {base : Nat} {e : TypeId} {v : Value} {xs : List α} (h : d.Row0 w0 M w base e v xs) :
    (v = .slice none 0 0 ∧ xs = []) ∨ ∃ g cap css, v = .slice (some ⟨g, 0, none⟩) xs.length cap ∧ base ≤ g ∧ xs.length ≤ cap ∧ cap ≤ maxLen ∧ css.length = xs.length ∧ Rw w g d.sz css ∧ ∀ (j : Nat) (x : α), xs[j]? = some x → ∃ cs, css[j]? = some cs ∧ d.K (vw w0 M) x cs := by
  obtain ⟨css, h1, h2, h3⟩ := h
  rcases h3.2 with ⟨e1, e2⟩ | ⟨g, cap, cur, e1, hg, hh, hnc, hcm, hs, ht⟩
  · exact .inl ⟨e1, List.eq_nil_of_length_eq_zero e2⟩
  · refine .inr ⟨g, cap, css, e1, hg, hnc, hcm, h1, ?_, h2⟩
    have hlen := Piece.len_lists h1 h2
    refine ⟨blk_lt hh, hlen, fun t c hc j u hu => ?_, fun x => by simp [World.frozen?, hh]⟩
    have hj : j < d.sz := by have := (List.getElem?_eq_some_iff.1 hu).1; rw [hlen c (List.mem_of_getElem? hc)] at this; exact this
    have htl := (List.getElem?_eq_some_iff.1 hc).1
    have h4 := flatten_get css hlen t j c hc hj
    rw [hu, ← ht, List.getElem?_take, if_pos (by
      have := Nat.mul_le_mul_right d.sz (show t + 1 ≤ xs.length by omega)
      rw [Nat.add_mul] at this; omega)] at h4
    rw [cell_of_row w g _ _ _ _ hh]
    simpa using h4
theorem Rw_flat {w : World} {g z : Nat} {css : List (List Value)} (h : Rw w g z css) (hz : 0 < z) (k : Nat) : ∀ j u, (css.drop k).flatten[j]? = some u → w.cell? ⟨g, k * z + j, none⟩ = some u := fun j u hu => by
  have hlen : ∀ c ∈ css.drop k, c.length = z := fun c hc => h.len c (List.mem_of_mem_drop hc)
  have hjl := (List.getElem?_eq_some_iff.1 hu).1
  rw [flatten_len _ hlen, List.length_drop] at hjl
  have ht : j / z < css.length - k := Nat.div_lt_of_lt_mul (by rw [Nat.mul_comm]; exact hjl)
  have hmod := Nat.mod_lt j hz
  have hdm := Nat.div_add_mod j z
  obtain ⟨q, hq⟩ : ∃ q, j / z = q := ⟨_, rfl⟩
  obtain ⟨r, hr⟩ : ∃ r, j % z = r := ⟨_, rfl⟩
  rw [hq] at ht hdm
  rw [hr] at hmod hdm
  have hkq : k + q < css.length := by omega
  have hc : (css.drop k)[q]? = some css[k + q] := by rw [List.getElem?_drop, List.getElem?_eq_getElem hkq]
  have h4 := flatten_get _ hlen q r _ hc hmod
  rw [Nat.mul_comm, hdm, hu] at h4
  have := h.at_ (k + q) _ (List.getElem?_eq_getElem hkq) r u h4.symm
  rw [← this, Nat.add_mul, Nat.mul_comm q, Nat.add_assoc, hdm]
/-- A row's front. -/
theorem Piece.take {d : Kd α} {w0 w : World} {M : List Nat} {g : Nat} {css : List (List Value)} {xs : List α} (hz : 0 < d.sz) (hr : Rw w g d.sz css) (hl : css.length = xs.length) (hk : ∀ (j : Nat) (x : α), xs[j]? = some x → ∃ cs, css[j]? = some cs ∧ d.K (vw w0 M) x cs) {k : Nat} (hkl : k ≤ xs.length) :
    d.Piece w0 M w (some ⟨g, 0, none⟩) k (xs.take k) := by
  refine ⟨by rw [List.length_take]; omega, (fun e => by cases e), css.take k, by simp [hl], fun j x hx => ?_, fun ad had j u hu => ?_⟩
  · rw [List.getElem?_take] at hx ⊢
    split at hx
    · rename_i hj
      obtain ⟨cs, a, b⟩ := hk j x hx
      exact ⟨cs, by rw [if_pos hj]; exact a, b⟩
    · cases hx
  · cases had
    have := Rw_flat (hr.cut k) hz 0 j u (by simpa using hu)
    rw [Kd.addr_add]
    simpa using this
/-- A row's end. -/
theorem Piece.drop {d : Kd α} {w0 w : World} {M : List Nat} {g : Nat} {css : List (List Value)} {xs : List α} (hz : 0 < d.sz) (hr : Rw w g d.sz css) (hl : css.length = xs.length) (hk : ∀ (j : Nat) (x : α), xs[j]? = some x → ∃ cs, css[j]? = some cs ∧ d.K (vw w0 M) x cs) (k : Nat) {o : Nat} (ho : o = k * d.sz) :
    d.Piece w0 M w (some ⟨g, o, none⟩) (xs.length - k) (xs.drop k) := by
  subst ho
  refine ⟨by rw [List.length_drop], (fun e => by cases e), css.drop k, by simp [hl], fun j x hx => ?_, fun ad had j u hu => ?_⟩
  · rw [List.getElem?_drop] at hx ⊢
    exact hk _ x hx
  · cases had
    rw [Kd.addr_add]
    exact Rw_flat hr hz k j u hu
theorem Piece.none_left {d : Kd α} {w0 w : World} {M : List Nat} {A : Option Addr} {xs : List α} {k : Nat} (h : k = xs.length) : d.Piece w0 M w A (xs.length - k) (xs.drop k) := by
  subst h
  rw [Nat.sub_self, List.drop_length]
  exact Piece.nil _ _ _ _ _
/-- A row that was there ahead, as a piece. -/
theorem Piece.of_S {d : Kd α} {w0 w : World} {M : List Nat} {A : Option Addr} {n cap : Nat} {ys : List α} (s : d.S (vw w0 M) (.slice A n cap) ys) (hb : Below w0.heap.size w0 w) : d.Piece w0 M w A n ys := by
  obtain ⟨rfl, -, -⟩ := s.form
  obtain ⟨css, h1, h2, h3, h4⟩ := s.lists
  exact ⟨rfl, h3, css, h1, fun j x hx => by
    obtain ⟨hj, rfl⟩ := List.getElem?_eq_some_iff.1 hx
    exact ⟨css[j]'(by omega), List.getElem?_eq_getElem _, h2 j hj (by omega)⟩, fun ad had j u hu => keep_cell hb (h4 ad had j u hu)⟩
/-- One that lies in a block of its own. -/
theorem Piece.one {d : Kd α} {w0 w : World} {M : List Nat} {g : Nat} {T : TypeId} {x : α} {cs : List Value} (hg : w.heap[g]? = some (.cells cs.toArray T (0, 0))) (hk : d.K (vw w0 M) x cs) : d.Piece w0 M w (some ⟨g, 0, none⟩) 1 [x] :=
  ⟨rfl, (fun e => by cases e), [cs], rfl, fun j y hy => by
    obtain ⟨hj, rfl⟩ := List.getElem?_eq_some_iff.1 hy
    obtain rfl : j = 0 := by simpa using hj
    exact ⟨cs, rfl, hk⟩, fun ad had j u hu => by
    cases had
    have := World.news_of_block hg j u
    exact this (by simpa using hu)⟩
section
variable {d : Kd α} {P : Program} (w w0 : World) (M : List Nat) (base : Nat) (t e : TypeId) (i : TypeInfo) (z : Value) (bytes : Nat) (ht : P.underlying t = some (.slice e)) (hi : P.info? e = some i) (hz : i.zero = some z)
  (hsize : i.size = d.sz) (hby : i.bytes = bytes) (hzs : z.cells.size = d.sz) (hsz : 0 < d.sz) (v : Value) (xs : List α) (hown : d.Row0 w0 M w base e v xs) (A : Option Addr) (m c : Nat) (ys : List α) (hp : d.Piece w0 M w A m ys)
  (h1 : ∀ h x cs, d.K h x cs → ∀ u ∈ cs, u.oneCell' = true) (h63 : xs.length + m ≤ maxLen) (hbytes : (xs.length + m) * bytes ≤ 140737488355328) (hbase : base ≤ w.heap.size)
  {o : Oper} {a : Act} {Q : Exit → Act → World → Prop} (s y : Operand) (ho : o.op = .call { callee := .builtin .append, args := #[s, y], argTypes := #[t, t] }) (hs : a.eval s = v) (hx : a.eval y = .slice A m c)
include ht hi hz hsize hby hzs hsz hown hp h1 h63 hbytes hbase ho hs hx
theorem wp_piece {K : Act → World → Prop} (h : ∀ v' w', d.Row0 w0 M w' base e v' (xs ++ ys) → w.grownBy w' v.ownBlock → (v'.ownBlock = v.ownBlock ∨ v'.ownBlock = some w.heap.size) → K (a.put o.dst v') w') : o.wp P a w K Q := by
  obtain ⟨css, k1, k2, k3⟩ := hown
  obtain ⟨hm, hA, cys, q1, q2, q3⟩ := hp
  have hlen := Piece.len_lists q1 q2
  refine wp_app w base t e i z d.sz bytes ht hi hz hsize hby hzs hsz v xs.length css.flatten k3 A m c cys.flatten (by rw [flatten_len cys hlen, q1, hm]) hA q3 (fun u hu => ?_) h63 hbytes hbase s y ho hs hx fun v' w' ho' hg' hn' => h v' w' ⟨css ++ cys, by simp [k1, q1], fun j x hx => ?_, by rw [List.length_append, hm, List.flatten_append]; exact ho'⟩ hg' hn'
  · obtain ⟨cs, hc, hu⟩ := List.mem_flatten.1 hu
    obtain ⟨j, hj, rfl⟩ := List.getElem_of_mem hc
    obtain ⟨cs, a, b⟩ := q2 j ys[j] (List.getElem?_eq_getElem (by omega))
    rw [List.getElem?_eq_getElem hj] at a
    cases a
    exact h1 _ _ _ b u hu
  · rcases Nat.lt_or_ge j xs.length with hlt | hge
    · rw [List.getElem?_append_left hlt] at hx
      obtain ⟨c, a, b⟩ := k2 j x hx
      exact ⟨c, by rw [List.getElem?_append_left (by omega)]; exact a, b⟩
    · rw [List.getElem?_append_right hge] at hx
      obtain ⟨c, a, b⟩ := q2 _ x hx
      exact ⟨c, by rw [List.getElem?_append_right (by omega), k1]; exact a, b⟩
theorem wpList_piece {ops : Array Oper} {rest : List Oper} (hgd : o.guard = none) (h : ∀ v' w', d.Row0 w0 M w' base e v' (xs ++ ys) → w.grownBy w' v.ownBlock → (v'.ownBlock = v.ownBlock ∨ v'.ownBlock = some w.heap.size) → wpList P ops Q rest (a.put o.dst v') w') : wpList P ops Q (o :: rest) a w :=
  wpList_plain hgd fun _ hK => wp_piece w w0 M base t e i z bytes ht hi hz hsize hby hzs hsz v xs hown A m c ys hp h1 h63 hbytes hbase s y ho hs hx fun v' w' h2 h3 h4 => hK _ _ (h v' w' h2 h3 h4)
theorem step_piece {ops : Array Oper} {K : Act → World → Prop} {E : Prop} (hgd : o.guard = none) (h : ∀ v' w', d.Row0 w0 M w' base e v' (xs ++ ys) → w.grownBy w' v.ownBlock → (v'.ownBlock = v.ownBlock ∨ v'.ownBlock = some w.heap.size) → K (a.put o.dst v') w') :
    if Region.wanted o (yielded ops a.tmps) = true then Oper.wp P o a w K Q else E := by
  have hw : Region.wanted o (yielded ops a.tmps) = true := by simp [Region.wanted, hgd]
  rw [if_pos hw]
  exact wp_piece w w0 M base t e i z bytes ht hi hz hsize hby hzs hsz v xs hown A m c ys hp h1 h63 hbytes hbase s y ho hs hx h
end
theorem Row0.base_le {d : Kd α} {w0 w : World} {M : List Nat} {base base' : Nat} {e : TypeId} {v : Value} {xs : List α} (h : d.Row0 w0 M w base e v xs) (hb : base' ≤ base) : d.Row0 w0 M w base' e v xs := by
  obtain ⟨css, h1, h2, h3⟩ := h
  exact ⟨css, h1, h2, own_base h3 hb⟩
theorem Row0.kept {d : Kd α} {w0 w w' : World} {M : List Nat} {base : Nat} {e : TypeId} {v : Value} {xs : List α} {row : Option Nat} (h : d.Row0 w0 M w base e v xs) (hg : w.grownBy w' row) (hn : v.ownBlock = none ∨ v.ownBlock ≠ row) : d.Row0 w0 M w' base e v xs := by
  obtain ⟨css, h1, h2, h3⟩ := h
  exact ⟨css, h1, h2, h3.kept hg hn⟩
theorem Row0.lt {d : Kd α} {w0 w : World} {M : List Nat} {base : Nat} {e : TypeId} {v : Value} {xs : List α} (h : d.Row0 w0 M w base e v xs) : ∀ q, v.ownBlock = some q → base ≤ q ∧ q < w.heap.size := by
  obtain ⟨css, h1, h2, h3⟩ := h
  exact h3.lt
theorem Row0.empty {d : Kd α} {w0 : World} {M : List Nat} (w : World) (e : TypeId) : d.Row0 w0 M (w.alloc (.cells #[] e)) w.heap.size e (.slice (some ⟨w.heap.size, 0, none⟩) 0 0) [] :=
  ⟨[], rfl, fun j x h => by simp at h, own_emptyN w e d.sz⟩
/-! 'append(append([]T{}, l[:k]...), x)': what holds as its operations come in any order. l0: the empty row is made; l4: the front is put on; l6: the block of one is made; l7: it is put on. -/
def InsJ (d : Kd α) (w0 : World) (M : List Nat) (w : World) (T : TypeId) (fr : List α) (x : α) (cx : List Value) (l0 l4 l6 l7 : Bool) (v0 v4 v6 v7 : Value) (W : World) : Prop :=
  Below w.heap.size w W ∧ (l4 = true → l0 = true) ∧ (l7 = true → l4 = true ∧ l6 = true) ∧
  (l0 = true → l4 = false → d.Row0 w0 M W w.heap.size T v0 []) ∧ (l4 = true → l7 = false → d.Row0 w0 M W w.heap.size T v4 fr) ∧
  (l6 = true → l7 = false → ∃ g, v6 = .slice (some ⟨g, 0, none⟩) 1 1 ∧ W.heap[g]? = some (.cells cx.toArray T (0, 0)) ∧ (l0 = true → l4 = false → v0.ownBlock ≠ some g)) ∧
  (l7 = true → d.Row0 w0 M W w.heap.size T v7 (fr ++ [x]))
section
variable {d : Kd α} {w0 : World} {M : List Nat} {w : World} {T : TypeId} {fr : List α} {x : α} {cx : List Value} {l0 l4 l6 l7 : Bool} {v0 v4 v6 v7 : Value} {W W' : World}
theorem InsJ.start (h : Below w.heap.size w W) : InsJ d w0 M w T fr x cx false false false false v0 v4 v6 v7 W :=
  ⟨h, (fun e => by cases e), (fun e => by cases e), (fun e => by cases e), (fun e => by cases e), (fun e => by cases e), (fun e => by cases e)⟩
theorem InsJ.alloc0 (h : InsJ d w0 M w T fr x cx false l4 l6 l7 v0 v4 v6 v7 W) : InsJ d w0 M w T fr x cx true l4 l6 l7 (.slice (some ⟨W.heap.size, 0, none⟩) 0 0) v4 v6 v7 (W.alloc (.cells #[] T)) := by
  obtain ⟨h1, h2, h3, h4, h5, h6, h7⟩ := h
  have e4 : l4 = false := by cases l4 with | false => rfl | true => cases h2 rfl
  subst e4
  have e7 : l7 = false := by cases l7 with | false => rfl | true => cases (h3 rfl).1
  subst e7
  refine ⟨Below.then h1 (alloc_below _ _), (fun e => by cases e), (fun e => by cases e), fun _ _ => (Row0.empty W T).base_le h1.size, (fun e => by cases e), fun e _ => ?_, (fun e => by cases e)⟩
  obtain ⟨g, k1, k2, -⟩ := h6 e rfl
  refine ⟨g, k1, (blk_old _ _ (blk_lt k2)).trans k2, fun _ _ => ?_⟩
  have := blk_lt k2
  show some W.heap.size ≠ some g
  intro e
  injection e with e
  omega
theorem InsJ.alloc1 (h : InsJ d w0 M w T fr x cx l0 l4 false l7 v0 v4 v6 v7 W) : InsJ d w0 M w T fr x cx l0 l4 true l7 v0 v4 (.slice (some ⟨W.heap.size, 0, none⟩) 1 1) v7 (W.alloc (.cells cx.toArray T)) := by
  obtain ⟨h1, h2, h3, h4, h5, h6, h7⟩ := h
  have e7 : l7 = false := by cases l7 with | false => rfl | true => cases (h3 rfl).2
  subst e7
  refine ⟨Below.then h1 (alloc_below _ _), h2, (fun e => by cases e), fun e k => (h4 e k).below (alloc_below _ _), fun e k => (h5 e k).below (alloc_below _ _), fun _ _ => ⟨_, rfl, blk_last _ _, fun e k hv => ?_⟩, (fun e => by cases e)⟩
  have := ((h4 e k).lt _ hv).2
  omega
theorem InsJ.row0 (h : InsJ d w0 M w T fr x cx l0 false l6 l7 v0 v4 v6 v7 W) (h0 : l0 = true) : d.Row0 w0 M W w.heap.size T v0 [] := h.2.2.2.1 h0 rfl
theorem InsJ.row1 (h : InsJ d w0 M w T fr x cx l0 l4 l6 false v0 v4 v6 v7 W) (h4 : l4 = true) : d.Row0 w0 M W w.heap.size T v4 fr := h.2.2.2.2.1 h4 rfl
theorem InsJ.one (h : InsJ d w0 M w T fr x cx l0 l4 l6 false v0 v4 v6 v7 W) (k6 : l6 = true) : ∃ g, v6 = .slice (some ⟨g, 0, none⟩) 1 1 ∧ W.heap[g]? = some (.cells cx.toArray T (0, 0)) := by
  obtain ⟨g, k1, k2, -⟩ := h.2.2.2.2.2.1 k6 rfl
  exact ⟨g, k1, k2⟩
theorem InsJ.app (h : InsJ d w0 M w T fr x cx l0 false l6 l7 v0 v4 v6 v7 W) (h0 : l0 = true) {v' : Value} (hr : d.Row0 w0 M W' w.heap.size T v' fr) (hg : W.grownBy W' v0.ownBlock) : InsJ d w0 M w T fr x cx l0 true l6 l7 v0 v' v6 v7 W' := by
  subst h0
  obtain ⟨h1, h2, h3, h4, h5, h6, h7⟩ := h
  have e7 : l7 = false := by cases l7 with | false => rfl | true => cases (h3 rfl).1
  subst e7
  have hr0 := h4 rfl rfl
  refine ⟨h1.grown hg h1.size (fun q hq => (hr0.lt q hq).1), fun _ => rfl, (fun e => by cases e), (fun _ e => by cases e), fun _ _ => hr, fun e _ => ?_, (fun e => by cases e)⟩
  obtain ⟨g, k1, k2, k3⟩ := h6 e rfl
  exact ⟨g, k1, (hg.block _ (blk_lt k2) (fun e => k3 rfl rfl e.symm)).trans k2, (fun _ e => by cases e)⟩
theorem InsJ.app2 (h : InsJ d w0 M w T fr x cx l0 l4 l6 false v0 v4 v6 v7 W) (k4 : l4 = true) (k6 : l6 = true) {v' : Value} (hr : d.Row0 w0 M W' w.heap.size T v' (fr ++ [x])) (hg : W.grownBy W' v4.ownBlock) : InsJ d w0 M w T fr x cx l0 l4 l6 true v0 v4 v6 v' W' := by
  have hr1 := h.row1 k4
  subst k4 k6
  obtain ⟨h1, h2, h3, h4, h5, h6, h7⟩ := h
  exact ⟨h1.grown hg h1.size (fun q hq => (hr1.lt q hq).1), h2, fun _ => ⟨rfl, rfl⟩, (fun _ e => by cases e), (fun _ e => by cases e), (fun _ e => by cases e), fun _ => hr⟩
theorem InsJ.done (h : InsJ d w0 M w T fr x cx l0 l4 l6 true v0 v4 v6 v7 W) : Below w.heap.size w W ∧ d.Row0 w0 M W w.heap.size T v7 (fr ++ [x]) := ⟨h.1, h.2.2.2.2.2.2 rfl⟩
end
end Kd
end Go.Proofs.YtnmhicgbdalniaaGreatDoor
