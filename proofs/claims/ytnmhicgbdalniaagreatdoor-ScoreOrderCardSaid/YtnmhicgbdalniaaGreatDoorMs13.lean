import Derived.Test.YtnmhicgbdalniaaGreatDoorShelf
import Derived.Test.YtnmhicgbdalniaaGreatDoorMs9
import Derived.Test.YtnmhicgbdalniaaGreatDoorMs12
import Derived.Lib.SlicesCompact
import Derived.Sort.OwnSorted
import Derived.Sort.Grow
import Derived.Lib.OwnBridge
import Derived.Laws.AppendOwnNone
namespace Go.Proofs.YtnmhicgbdalniaaGreatDoor
open Go.RowKit

/-- Is a pod one of the others of an owner that stand? -/
def other (p x : Pd) : Bool := !decide (p.owner = ⟨#[]⟩) && (decide (x.owner = p.owner) && (!x.hold && (!decide (x.name = p.name) && !decide (x.node = ⟨#[]⟩))))
def countV (s : St) (p : Pd) (dom : ByteArray) (l : List Pd) : Nat := l.countP fun x => other p x && inDom s x.node p.key dom
theorem countV_snoc (s : St) (p : Pd) (dom : ByteArray) {l : List Pd} {k : Nat} (h : k < l.length) : countV s p dom (l.take (k + 1)) = countV s p dom (l.take k) + if (other p l[k] && inDom s l[k].node p.key dom) = true then 1 else 0 := by
  unfold countV
  rw [List.take_succ_eq_append_getElem h, List.countP_append, List.countP_singleton]
theorem countV_le (s : St) (p : Pd) (dom : ByteArray) (l : List Pd) : countV s p dom l ≤ l.length := List.countP_le_length
theorem callFunc_count1 (args : Array Value) (w : World) : (callFunc 256 args).run Tryz.prog w = .ok (.enter 256 args) w := by
  simp [go_sem]
def CountDone (n : Nat) (w : World) (e : Ending) (w' : World) : Prop := e = .returned (.int .i64 (n : Int)) ∧ Below w.heap.size w w'
set_option maxHeartbeats 4000000 in
set_option maxRecDepth 100000 in
theorem Count_calls (vs vp : Value) (s : St) (p : Pd) (dom : ByteArray) (w : World) (hs : Kd.state.V (vw w []) vs s) (hp : Kd.pod.V (vw w []) vp p) :
    Calls Tryz.prog 178 #[vs, vp, .string dom] w (CountDone (countV s p dom s.pods) w) := by
  have hmf : ∀ (fn : Fn) (first cap : Array Value) (w : World), (Instr.makeFunc fn first cap).run Tryz.prog w = .ok (.func fn first cap) w := fun _ _ _ _ => rfl
  obtain ⟨cs, rfl, hks⟩ := hs
  obtain ⟨cp, rfl, hkp⟩ := hp
  have HKS := Lib.hid hks
  obtain ⟨A1, c1, A2, c2, A3, c3, rfl, -, s2, -⟩ := hks
  obtain ⟨P1, p1, P2, p2, P3, p3, P4, p4, rfl, -⟩ := hkp
  obtain ⟨-, f2, f2'⟩ := s2.form
  have S2 := Lib.hid s2
  clear s2
  go_enter Tryz.func178, Tryz.ntmps178
  go_wp2
  obtain ⟨W, hW⟩ : ∃ W : World, W = (((w.alloc (.cells #[.slice A1 s.nodes.length c1, .slice A2 s.pods.length c2, .slice A3 s.budgets.length c3] 26)).alloc (.cells #[.string p.name, .string p.owner, .int .i64 p.prio, .slice P1 p.need.length p1, .slice P2 p.labels.length p2, .slice P3 p.sel.length p3, .slice P4 p.tols.length p4, .string p.key, .int .i64 p.most, .string p.node, .bool p.hold] 35)).alloc (.cells #[.string dom] 9)) := ⟨_, rfl⟩
  rw [← hW]
  have hbw : Below w.heap.size w W := by rw [hW]; exact Below.then (Below.then (alloc_below _ _) (alloc_below _ _)) (alloc_below _ _)
  have k1 : W.heap[w.heap.size]? = some (.cells [.slice A1 s.nodes.length c1, .slice A2 s.pods.length c2, .slice A3 s.budgets.length c3].toArray 26 (0, 0)) := by
    rw [hW]; exact (blk_old _ _ (by simp; omega)).trans ((blk_old _ _ (by simp)).trans (blk_last _ _))
  have k2 : W.heap[w.heap.size + 1]? = some (.cells #[.string p.name, .string p.owner, .int .i64 p.prio, .slice P1 p.need.length p1, .slice P2 p.labels.length p2, .slice P3 p.sel.length p3, .slice P4 p.tols.length p4, .string p.key, .int .i64 p.most, .string p.node, .bool p.hold] 35 (0, 0)) := by
    rw [hW]; exact (blk_old _ _ (by simp)).trans ((show _ = w.heap.size + 1 by simp : (w.alloc (.cells #[.slice A1 s.nodes.length c1, .slice A2 s.pods.length c2, .slice A3 s.budgets.length c3] 26)).heap.size = w.heap.size + 1) ▸ blk_last _ _)
  have k3 : W.heap[w.heap.size + 2]? = some (.cells #[.string dom] 9 (0, 0)) := by
    rw [hW]
    have := blk_last ((w.alloc (.cells #[.slice A1 s.nodes.length c1, .slice A2 s.pods.length c2, .slice A3 s.budgets.length c3] 26)).alloc (.cells #[.string p.name, .string p.owner, .int .i64 p.prio, .slice P1 p.need.length p1, .slice P2 p.labels.length p2, .slice P3 p.sel.length p3, .slice P4 p.tols.length p4, .string p.key, .int .i64 p.most, .string p.node, .bool p.hold] 35)) (.cells #[.string dom] 9)
    simpa using this
  have HK0 := Lib.hid (And.intro k1 (And.intro k2 k3))
  have HBW := Lib.hid hbw
  obtain ⟨z, zf⟩ := blk_all k1
  clear hbw k1 k2 k3 hW
  go_wp2
  go_loopw [7, 13] (fun n i wr => ∃ k : Nat, k ≤ s.pods.length ∧ i = .int .i64 k ∧ n = .int .i64 (countV s p dom (s.pods.take k) : Nat) ∧ Hid (Below W.heap.size W wr)) (fun _ i _ => s.pods.length - (intOf i).toNat)
  case atStart => exact ⟨0, Nat.zero_le _, rfl, rfl, Below.refl _ _⟩
  case round =>
    obtain ⟨k, hk, rfl, rfl, HB⟩ := hrel
    clear z zf
    by_cases hlt : k < s.pods.length
    · have hcl := countV_le s p dom (s.pods.take k)
      rw [List.length_take] at hcl
      have hsn := countV_snoc s p dom hlt
      obtain ⟨b, off, cs, rfl, hn, hc⟩ := S2.out.both (Below.then HBW.out HB.out) k hlt
      obtain ⟨x, hx⟩ : ∃ x, s.pods[k] = x := ⟨_, rfl⟩
      rw [hx] at hn hsn
      obtain ⟨B1, d1, B2, d2, B3, d3, B4, d4, rfl, -⟩ := hn
      have HC : Hid (wr.rangeAt b (off + k * 11) _) := hc
      have HSN := Lib.hid hsn
      have q2 := (HB.out.block _ (blk_lt HK0.out.2.1)).trans HK0.out.2.1
      have HQ2 := Lib.hid q2
      obtain ⟨y, yf⟩ := blk_all q2
      have l2 := blk_lt q2
      clear hc hsn hx q2
      have e1 := empty_beq p.owner
      have e2 := empty_beq x.node
      have e3 : (!x.owner.toList == p.owner.toList) = !decide (x.owner = p.owner) := by
        by_cases h : x.owner = p.owner
        · rw [str_beq h, decide_eq_true h]
        · rw [str_nbeq h, decide_eq_false h]
      have e4 : (x.name.toList == p.name.toList) = decide (x.name = p.name) := by
        by_cases h : x.name = p.name
        · rw [str_beq h, decide_eq_true h]
        · rw [str_nbeq h, decide_eq_false h]
      have hother : other p x = (!decide (p.owner = ⟨#[]⟩) && (decide (x.owner = p.owner) && (!x.hold && (!decide (x.name = p.name) && !decide (x.node = ⟨#[]⟩))))) := rfl
      obtain ⟨a, ha⟩ : ∃ a, decide (p.owner = ⟨#[]⟩) = a := ⟨_, rfl⟩
      obtain ⟨o, ho⟩ : ∃ o, decide (x.owner = p.owner) = o := ⟨_, rfl⟩
      obtain ⟨c, hc⟩ : ∃ c, x.hold = c := ⟨_, rfl⟩
      obtain ⟨d, hd⟩ : ∃ d, decide (x.name = p.name) = d := ⟨_, rfl⟩
      obtain ⟨f, hf⟩ : ∃ f, decide (x.node = ⟨#[]⟩) = f := ⟨_, rfl⟩
      rw [ha] at e1 hother
      rw [ho] at e3 hother
      rw [hc] at HC hother
      rw [hd] at e4 hother
      rw [hf] at e2 hother
      have HO := Lib.hid hother
      clear hother ha ho hc hd hf
      have Z0 : other p x = false → Hid (countV s p dom (s.pods.take (k + 1)) = countV s p dom (s.pods.take k)) := fun h => by
        show _ = _
        rw [HSN.out, h]; simp
      have HB2 : Hid (Below W.heap.size W (wr.alloc (.cells #[.string x.name, .string x.owner, .int .i64 x.prio, .slice B1 x.need.length d1, .slice B2 x.labels.length d2, .slice B3 x.sel.length d3, .slice B4 x.tols.length d4, .string x.key, .int .i64 x.most, .string x.node, .bool c] 35))) := Below.then HB.out (alloc_below _ _)
      go_upto_region 5 with (with_reducible refine wpList_load_mid rfl 35 _ rfl b (off + k * 11) rfl _ _ HC.out Tryz.underlying35 rfl (by kernel_rfl) ?_)
      cases a with
      | true =>
        go_wp2
        go_roundw
        case rel => exact ⟨k + 1, by omega, by go_num, by rw [(Z0 (by rw [HO.out]; rfl)).out], HB2.out⟩
        case measure => simp [intOf]; omega
      | false =>
        cases o with
        | false =>
          go_wp2
          go_roundw
          case rel => exact ⟨k + 1, by omega, by go_num, by rw [(Z0 (by rw [HO.out]; rfl)).out], HB2.out⟩
          case measure => simp [intOf]; omega
        | true =>
          cases c with
          | true =>
            go_wp2
            go_roundw
            case rel => exact ⟨k + 1, by omega, by go_num, by rw [(Z0 (by rw [HO.out]; rfl)).out], HB2.out⟩
            case measure => simp [intOf]; omega
          | false =>
            cases d with
            | true =>
              go_wp2
              go_roundw
              case rel => exact ⟨k + 1, by omega, by go_num, by rw [(Z0 (by rw [HO.out]; rfl)).out], HB2.out⟩
              case measure => simp [intOf]; omega
            | false =>
              cases f with
              | true =>
                go_wp2
                go_roundw
                case rel => exact ⟨k + 1, by omega, by go_num, by rw [(Z0 (by rw [HO.out]; rfl)).out], HB2.out⟩
                case measure => simp [intOf]; omega
              | false =>
                go_wp2_with fail
                generalize hU : wr.alloc (.cells #[.string x.name, .string x.owner, .int .i64 x.prio, .slice B1 x.need.length d1, .slice B2 x.labels.length d2, .slice B3 x.sel.length d3, .slice B4 x.tols.length d4, .string x.key, .int .i64 x.most, .string x.node, .bool false] 35) = U at HB2 ⊢
                have hus : U.heap.size = wr.heap.size + 1 := by rw [← hU]; simp
                have hub : U.heap[wr.heap.size]? = some (.cells #[.string x.name, .string x.owner, .int .i64 x.prio, .slice B1 x.need.length d1, .slice B2 x.labels.length d2, .slice B3 x.sel.length d3, .slice B4 x.tols.length d4, .string x.key, .int .i64 x.most, .string x.node, .bool false] 35 (0, 0)) := by rw [← hU]; exact blk_last _ _
                have hue : Below U.heap.size U (U.alloc (.cells #[.int .i64 0] 71)) := alloc_below _ _
                have hW2 := Below.then HB2.out hue
                have r1 := (hW2.block _ (blk_lt HK0.out.1)).trans HK0.out.1
                have r2 := (hW2.block _ (blk_lt HK0.out.2.1)).trans HK0.out.2.1
                have r3 := (hW2.block _ (blk_lt HK0.out.2.2)).trans HK0.out.2.2
                have r4 := (hue.block _ (blk_lt hub)).trans hub
                obtain ⟨g, hg⟩ : ∃ g, inDom s x.node p.key dom = g := ⟨_, rfl⟩
                have hc1 := count1_calls w.heap.size wr.heap.size (w.heap.size + 1) (w.heap.size + 2) s x.node p.key dom _ _ r1 (Kd.state.mono (vw_below (Below.then HBW.out hW2)) HKS.out) ((blk_all r4).1 9) ((blk_all r2).1 7) ((blk_all r3).1 0)
                rw [hg] at hc1
                have hcn : countV s p dom (s.pods.take (k + 1)) = countV s p dom (s.pods.take k) + if g = true then 1 else 0 := by
                  rw [HSN.out, HO.out, hg]; simp
                have HCN := Lib.hid hcn
                have HW2 := Lib.hid hW2
                clear hW2 r1 r2 r3 r4 hg hcn hub hU hue
                refine (try_calls _ _ _ (fun n w2 => Below (U.alloc (.cells #[.int .i64 0] 71)).heap.size (U.alloc (.cells #[.int .i64 0] 71)) w2 ∧ n = if g = true then 0 else 10) (callFunc_count1 _) (hc1.mono ?_)).mono ?_
                · rintro e w2 ⟨hb, h⟩
                  refine ⟨hb.block _ (by simp), ?_⟩
                  rcases h with ⟨h, rfl⟩ | ⟨h, rfl⟩
                  · exact .inl ⟨_, rfl, hb, by rw [if_pos h]⟩
                  · exact .inr ⟨10, by omega, rfl, hb, by rw [if_neg (by rw [h]; simp)]⟩
                clear hc1
                rintro e w' ⟨n, w2, rfl, ⟨hb, rfl⟩, hb3⟩
                have HB4 : Hid (Below W.heap.size W w') := (Below.then HW2.out hb).trans (hb3.below (by have := HB2.out.size; omega) (by have := (Below.then HW2.out hb).size; omega))
                clear hb hb3
                cases g with
                | true =>
                  have hr := HCN.out
                  rw [if_pos rfl] at hr
                  have HR := Lib.hid hr
                  clear hr
                  go_wp2
                  go_roundw
                  case rel => exact ⟨k + 1, by omega, by go_num, by rw [HR.out, Int.natCast_add]; rfl, HB4.out⟩
                  case measure => simp [intOf]; omega
                | false =>
                  have hr := HCN.out
                  rw [if_neg (by simp), Nat.add_zero] at hr
                  have HR := Lib.hid hr
                  clear hr
                  go_wp2
                  go_roundw
                  case rel => exact ⟨k + 1, by omega, by go_num, by rw [HR.out]; rfl, HB4.out⟩
                  case measure => simp [intOf]; omega
    · obtain rfl : k = s.pods.length := by omega
      have HX : Hid (s.pods.take s.pods.length = s.pods) := List.take_length
      have HB3 := Lib.hid (Below.then HBW.out HB.out)
      go_wp2
      go_ret
      rw [HX.out]
      exact ⟨rfl, HB3.out⟩
end Go.Proofs.YtnmhicgbdalniaaGreatDoor
namespace Go.Proofs.YtnmhicgbdalniaaGreatDoor
open Go.RowKit

/-! The domains of a label: sorted, each once. -/
def bs (a : ByteArray) : List UInt8 := a.data.toList
def ba (l : List UInt8) : ByteArray := ⟨l.toArray⟩
theorem ba_bs (a : ByteArray) : ba (bs a) = a := rfl
theorem bs_inj {a b : ByteArray} (h : bs a = bs b) : a = b := by rw [← ba_bs a, h, ba_bs]
def insB (v : List UInt8) : List (List UInt8) → List (List UInt8)
  | [] => [v]
  | a :: r => if a < v then a :: insB v r else if a = v then a :: r else v :: a :: r
def insAll (l : List (List UInt8)) : List (List UInt8) := l.foldl (fun a v => insB v a) []
def domsL (l : List Nd) (key : ByteArray) : List ByteArray := l.filterMap fun n => if (getV n.labels key).2 then some (getV n.labels key).1 else none
def domsV (l : List Nd) (key : ByteArray) : List (List UInt8) := insAll ((domsL l key).map bs)
abbrev Rises (l : List (List UInt8)) : Prop := l.Pairwise (· < ·)
theorem insB_mem (v x : List UInt8) : ∀ l, x ∈ insB v l ↔ x = v ∨ x ∈ l
  | [] => by simp [insB]
  | a :: r => by
    unfold insB
    split
    · rw [List.mem_cons, insB_mem v x r, List.mem_cons]
      constructor
      · rintro (h | h | h)
        · exact .inr (.inl h)
        · exact .inl h
        · exact .inr (.inr h)
      · rintro (h | h | h)
        · exact .inr (.inl h)
        · exact .inl h
        · exact .inr (.inr h)
    · split
      · rename_i h
        subst h
        simp
      · simp
theorem insB_rises (v : List UInt8) : ∀ l, Rises l → Rises (insB v l)
  | [], _ => by simp [insB, Rises]
  | a :: r, h => by
    obtain ⟨h1, h2⟩ := List.pairwise_cons.1 h
    unfold insB
    split
    · rename_i hlt
      refine List.pairwise_cons.2 ⟨fun x hx => ?_, insB_rises v r h2⟩
      rcases (insB_mem v x r).1 hx with rfl | hx
      · exact hlt
      · exact h1 x hx
    · split
      · exact h
      · rename_i n1 n2
        have hva : v < a := Std.lt_of_le_of_ne (Std.not_lt.1 n1) (Ne.symm n2)
        refine List.pairwise_cons.2 ⟨fun x hx => ?_, h⟩
        rcases List.mem_cons.1 hx with rfl | hx
        · exact hva
        · exact Std.lt_of_le_of_lt (Std.le_of_lt hva) (h1 x hx)
theorem insAll_both (l : List (List UInt8)) : ∀ a, Rises a → Rises (l.foldl (fun a v => insB v a) a) ∧ ∀ x, x ∈ l.foldl (fun a v => insB v a) a ↔ x ∈ a ∨ x ∈ l := by
  induction l with
  | nil => exact fun a h => ⟨h, fun x => by simp⟩
  | cons v r ih =>
    intro a h
    obtain ⟨i1, i2⟩ := ih (insB v a) (insB_rises v a h)
    refine ⟨i1, fun x => ?_⟩
    rw [List.foldl_cons, i2 x, insB_mem, List.mem_cons]
    constructor
    · rintro ((h | h) | h)
      · exact .inr (.inl h)
      · exact .inl h
      · exact .inr (.inr h)
    · rintro (h | h | h)
      · exact .inl (.inr h)
      · exact .inl (.inl h)
      · exact .inr h
theorem insAll_rises (l : List (List UInt8)) : Rises (insAll l) := (insAll_both l [] List.Pairwise.nil).1
theorem insAll_mem (l : List (List UInt8)) (x : List UInt8) : x ∈ insAll l ↔ x ∈ l := by
  have := (insAll_both l [] List.Pairwise.nil).2 x
  simpa [insAll] using this
theorem rises_eq : ∀ (a b : List (List UInt8)), Rises a → Rises b → (∀ x, x ∈ a ↔ x ∈ b) → a = b
  | [], [], _, _, _ => rfl
  | [], b :: s, _, _, h => by have := (h b).2 (List.mem_cons_self ..); cases this
  | a :: r, [], _, _, h => by have := (h a).1 (List.mem_cons_self ..); cases this
  | a :: r, b :: s, ha, hb, h => by
    obtain ⟨a1, a2⟩ := List.pairwise_cons.1 ha
    obtain ⟨b1, b2⟩ := List.pairwise_cons.1 hb
    have hab : a = b := by
      rcases List.mem_cons.1 ((h a).1 (List.mem_cons_self ..)) with e | e
      · exact e
      · rcases List.mem_cons.1 ((h b).2 (List.mem_cons_self ..)) with e' | e'
        · exact e'.symm
        · exact absurd (Std.lt_of_le_of_lt (Std.le_of_lt (a1 b e')) (b1 a e)) Std.lt_irrefl
    subst hab
    congr 1
    refine rises_eq r s a2 b2 fun x => ⟨fun hx => ?_, fun hx => ?_⟩
    · rcases List.mem_cons.1 ((h x).1 (List.mem_cons_of_mem _ hx)) with e | e
      · exact absurd (e ▸ a1 x hx) Std.lt_irrefl
      · exact e
    · rcases List.mem_cons.1 ((h x).2 (List.mem_cons_of_mem _ hx)) with e | e
      · exact absurd (e ▸ b1 x hx) Std.lt_irrefl
      · exact e
theorem compact_upto (d : Array (List UInt8)) (hs : ∀ i j, i ≤ j → j < d.size → d[i]! ≤ d[j]!) : ∀ m, m ≤ d.size → Rises (Lib.compactUpTo d m) ∧ (∀ x, x ∈ Lib.compactUpTo d m ↔ ∃ j, j < m ∧ x = d[j]!)
  | 0, _ => ⟨by simp [Lib.compactUpTo, Rises], fun x => by simp [Lib.compactUpTo]⟩
  | m + 1, hm => by
    obtain ⟨i1, i2⟩ := compact_upto d hs m (by omega)
    rw [Lib.compactUpTo_succ]
    by_cases hk : Lib.keeps d m = true
    · rw [if_pos hk]
      refine ⟨List.pairwise_append.2 ⟨i1, by simp, fun x hx y hy => ?_⟩, fun x => ?_⟩
      · obtain ⟨j, hj, rfl⟩ := (i2 x).1 hx
        obtain rfl : y = d[m]! := by simpa using hy
        have hk' : m = 0 ∨ d[m]! ≠ d[m - 1]! := by simpa [Lib.keeps] using hk
        rcases hk' with e | e
        · omega
        · have h1 : d[m - 1]! < d[m]! := Std.lt_of_le_of_ne (hs _ _ (by omega) (by omega)) (Ne.symm e)
          exact Std.lt_of_le_of_lt (hs j (m - 1) (by omega) (by omega)) h1
      · rw [List.mem_append, i2 x, List.mem_singleton]
        constructor
        · rintro (⟨j, hj, e⟩ | e)
          · exact ⟨j, by omega, e⟩
          · exact ⟨m, by omega, e⟩
        · rintro ⟨j, hj, e⟩
          rcases Nat.lt_or_ge j m with h | h
          · exact .inl ⟨j, h, e⟩
          · exact .inr (by rw [e, show j = m by omega])
    · rw [if_neg hk, List.append_nil]
      refine ⟨i1, fun x => ?_⟩
      have hk' : ¬ (m = 0 ∨ d[m]! ≠ d[m - 1]!) := by simpa [Lib.keeps] using hk
      have h0 : m ≠ 0 := fun e => hk' (.inl e)
      have h1 : d[m]! = d[m - 1]! := Classical.byContradiction fun e => hk' (.inr e)
      rw [i2 x]
      constructor
      · rintro ⟨j, hj, e⟩
        exact ⟨j, by omega, e⟩
      · rintro ⟨j, hj, e⟩
        rcases Nat.lt_or_ge j m with h | h
        · exact ⟨j, h, e⟩
        · exact ⟨m - 1, by omega, by rw [e, show j = m by omega, h1]⟩
theorem insAll_eq (l : List (List UInt8)) : insAll l = Lib.compact (l.mergeSort fun x y => decide (x ≤ y)) := by
  have hp := List.pairwise_mergeSort (le := fun x y : List UInt8 => decide (x ≤ y)) (fun a b c h k => by
    simp only [decide_eq_true_eq] at h k ⊢
    exact Std.le_trans h k) (fun a b => by
    simp only [Bool.or_eq_true, decide_eq_true_eq]
    exact Std.le_total) l
  obtain ⟨z, hz⟩ : ∃ z, l.mergeSort (fun x y => decide (x ≤ y)) = z := ⟨_, rfl⟩
  have hm : ∀ x, x ∈ z ↔ x ∈ l := fun x => by rw [← hz]; exact List.mem_mergeSort
  rw [hz] at hp ⊢
  have hs : ∀ i j, i ≤ j → j < z.toArray.size → z.toArray[i]! ≤ z.toArray[j]! := fun i j hij hj => by
    have hj' : j < z.length := by simpa using hj
    rw [getElem!_pos _ i (by simp; omega), getElem!_pos _ j hj]
    simp only [List.getElem_toArray]
    rcases Nat.lt_or_ge i j with h | h
    · have := (List.pairwise_iff_getElem.1 hp) i j (by omega) hj' h
      simpa using this
    · obtain rfl : i = j := by omega
      exact Std.le_refl _
  obtain ⟨c1, c2⟩ := compact_upto z.toArray hs z.length (by simp)
  refine rises_eq _ _ (insAll_rises l) c1 fun x => ?_
  rw [insAll_mem, ← hm, Lib.compact, c2 x]
  constructor
  · intro h
    obtain ⟨j, hj, rfl⟩ := List.getElem_of_mem h
    exact ⟨j, hj, by rw [getElem!_pos _ j (by simpa using hj)]; simp⟩
  · rintro ⟨j, hj, rfl⟩
    rw [getElem!_pos _ j (by simpa using hj)]
    simp
theorem domsL_snoc (l : List Nd) (key : ByteArray) {k : Nat} (h : k < l.length) : domsL (l.take (k + 1)) key = domsL (l.take k) key ++ if (getV l[k].labels key).2 = true then [(getV l[k].labels key).1] else [] := by
  unfold domsL
  rw [List.take_succ_eq_append_getElem h, List.filterMap_append]
  congr 1
  rw [List.filterMap_cons]
  split <;> rename_i he <;> split at he <;> simp_all
theorem domsL_len (l : List Nd) (key : ByteArray) : (domsL l key).length ≤ l.length := List.length_filterMap_le _ _
theorem domsV_snoc (l : List Nd) (key : ByteArray) {k : Nat} (h : k < l.length) : domsV (l.take (k + 1)) key = if (getV l[k].labels key).2 = true then insB (bs (getV l[k].labels key).1) (domsV (l.take k) key) else domsV (l.take k) key := by
  unfold domsV insAll
  rw [domsL_snoc l key h, List.map_append, List.foldl_append]
  split <;> rfl
theorem insB_len (v : List UInt8) : ∀ l : List (List UInt8), (insB v l).length ≤ l.length + 1
  | [] => by simp [insB]
  | a :: r => by
    unfold insB
    have := insB_len v r
    split
    · simp; omega
    · split <;> simp
theorem insAll_len (l : List (List UInt8)) : ∀ a, (l.foldl (fun a v => insB v a) a).length ≤ a.length + l.length := by
  induction l with
  | nil => simp
  | cons v r ih =>
    intro a
    have h1 := ih (insB v a)
    have h2 := insB_len v a
    rw [List.foldl_cons, List.length_cons]
    omega
theorem domsV_len (l : List Nd) (key : ByteArray) : (domsV l key).length ≤ l.length := by
  have h1 := insAll_len ((domsL l key).map bs) []
  have h2 := domsL_len l key
  simp at h1
  exact Nat.le_trans h1 h2
end Go.Proofs.YtnmhicgbdalniaaGreatDoor
namespace Go.Proofs.YtnmhicgbdalniaaGreatDoor
open Go.RowKit Go.Sort

/-- A row of strings, in memory that is new. -/
def DomsDone (l : List (List UInt8)) (w : World) (e : Ending) (w' : World) : Prop := ∃ sv, e = .returned sv ∧ w'.ownsRow w.heap.size 9 1 sv l.length (l.map encStr) ∧ Below w.heap.size w w'
theorem doms_left {w w1 : World} {g cap n nn q : Nat} {os : Array Obj} {ss : List (List UInt8)} (hown : w1.ownsRow w.heap.size 9 1 (.slice (some ⟨g, 0, none⟩) n cap) n (ss.map encStr)) (hbel : Below w.heap.size w w1) (hbg : w.heap.size ≤ g) (hlen : ss.length = n) :
    DomsDone (insAll ss) w (.returned (.slice (some ⟨g, 0, none⟩) (Lib.compact (ss.mergeSort fun x y => decide (x ≤ y))).length cap))
      (putRow encStr (Sort.ahead (grow (putRow encStr (Sort.ahead w1 nn) g 0 (ss.mergeSort fun x y => decide (x ≤ y)).toArray) os) q) g 0 (Lib.compact (ss.mergeSort fun x y => decide (x ≤ y)) ++ List.replicate (n - (Lib.compact (ss.mergeSort fun x y => decide (x ≤ y))).length) []).toArray) := by
  have hl2 : (ss.mergeSort fun x y => decide (x ≤ y)).length = ss.length := List.length_mergeSort ss
  have hle := Lib.compact_length_le (ss.mergeSort fun x y => decide (x ≤ y))
  subst hlen
  rw [insAll_eq]
  rcases hown.2 with ⟨h0, _⟩ | ⟨g', cap', cur, hv, hbase, hb, h1, h2, h3, h4⟩
  · cases h0
  cases hv
  have hs := ownsRow_sorted (n := nn) (os := os) (ts := ss.mergeSort fun x y => decide (x ≤ y)) hl2 hbase hb h1 h2 h3
  have hc := Lib.ownsRow_putRow (q := q) (k := (Lib.compact (ss.mergeSort fun x y => decide (x ≤ y))).length) (ys := Lib.compact (ss.mergeSort fun x y => decide (x ≤ y)) ++ List.replicate (ss.length - (Lib.compact (ss.mergeSort fun x y => decide (x ≤ y))).length) []) hs (by simp; omega) (by omega)
  rw [List.take_left] at hc
  exact ⟨_, rfl, hc, Lib.below_putRow (hbel.grown (grownBy_sorted _) hbel.size (fun j hj => by cases hj; exact hbase)) hbg⟩
theorem own_base {w : World} {base base' : Nat} {e : TypeId} {size : Nat} {v : Value} {n : Nat} {xs : List Value} (h : w.ownsRow base e size v n xs) (hb : base' ≤ base) : w.ownsRow base' e size v n xs := by
  obtain ⟨h1, h2 | ⟨g, cap, cur, h3, h4, h5⟩⟩ := h
  · exact ⟨h1, .inl h2⟩
  · exact ⟨h1, .inr ⟨g, cap, cur, h3, by omega, h5⟩⟩
theorem info_str : (Tryz.prog.info? 9).map (fun i => (i.zero, i.size, i.bytes)) = some (some (.string ⟨#[]⟩), 1, 16) := by kernel_rfl
set_option maxHeartbeats 4000000 in
set_option maxRecDepth 100000 in
theorem Domains_calls (vs : Value) (s : St) (key : ByteArray) (w : World) (hs : Kd.state.V (vw w []) vs s) (hn : s.nodes.length ≤ 1000) :
    Calls Tryz.prog 179 #[vs, .string key] w (DomsDone (domsV s.nodes key) w) := by
  obtain ⟨i0, hi, hz0, hz1, hz2⟩ := info_parts info_str
  obtain ⟨cs, rfl, hks⟩ := hs
  obtain ⟨A1, c1, A2, c2, A3, c3, rfl, s1, -, -⟩ := hks
  have S1 := Lib.hid s1
  clear s1
  go_enter Tryz.func179, Tryz.ntmps179
  go_wp2
  obtain ⟨W, hW⟩ : ∃ W : World, W = w.alloc (.cells #[.slice A1 s.nodes.length c1, .slice A2 s.pods.length c2, .slice A3 s.budgets.length c3] 26) := ⟨_, rfl⟩
  rw [← hW]
  have hbw : Below w.heap.size w W := by rw [hW]; exact alloc_below _ _
  have k1 : W.heap[w.heap.size]? = some (.cells #[.slice A1 s.nodes.length c1, .slice A2 s.pods.length c2, .slice A3 s.budgets.length c3] 26 (0, 0)) := by
    rw [hW]; exact blk_last _ _
  have HBW := Lib.hid hbw
  obtain ⟨z, zf⟩ := blk_all k1
  clear hbw k1 hW
  go_wp2
  go_loopw [5, 13] (fun o i wr => ∃ k : Nat, k ≤ s.nodes.length ∧ i = .int .i64 k ∧ Hid (wr.ownsRow W.heap.size 9 1 o (domsL (s.nodes.take k) key).length (((domsL (s.nodes.take k) key).map bs).map encStr)) ∧ Hid (Below W.heap.size W wr)) (fun _ i _ => s.nodes.length - (intOf i).toNat)
  case atStart => exact ⟨0, Nat.zero_le _, rfl, World.ownsRow_nil _ _ _ _, Below.refl _ _⟩
  case round =>
    obtain ⟨k, hk, rfl, HO, HB⟩ := hrel
    clear z zf
    by_cases hlt : k < s.nodes.length
    · have hdl : (domsL (s.nodes.take k) key).length ≤ k := by
        have := domsL_len (s.nodes.take k) key
        rw [List.length_take] at this; omega
      have hsn := domsL_snoc s.nodes key hlt
      obtain ⟨b, off, cs, rfl, hn2, hc⟩ := S1.out.both (Below.then HBW.out HB.out) k hlt
      obtain ⟨x, hx⟩ : ∃ x, s.nodes[k] = x := ⟨_, rfl⟩
      rw [hx] at hn2 hsn
      obtain ⟨D1, g1, D2, g2, D3, g3, rfl, -, -, t2, -⟩ := hn2
      have T2 : Hid (Kd.pair.S (vw w []) (.slice D2 x.labels.length g2) x.labels) := t2
      have HC : Hid (wr.rangeAt b (off + k * 5) _) := hc
      have HSN := Lib.hid hsn
      clear hc hsn hx t2
      obtain ⟨d, ok, hd⟩ : ∃ d ok, getV x.labels key = (d, ok) := ⟨_, _, rfl⟩
      have HD := Lib.hid hd
      clear hd
      have hsz := HB.out.size
      have HB2 : Hid (Below W.heap.size W (wr.alloc (.cells #[.string x.name, .slice D1 x.cap.length g1, .slice D2 x.labels.length g2, .slice D3 x.taints.length g3, .bool x.cordon] 94))) := Below.then HB.out (alloc_below _ _)
      go_upto_region 5 with (with_reducible refine wpList_load_mid rfl 94 _ rfl b (off + k * 5) rfl _ _ HC.out Tryz.underlying94 rfl (by kernel_rfl) ?_)
      generalize hU : wr.alloc (.cells #[.string x.name, .slice D1 x.cap.length g1, .slice D2 x.labels.length g2, .slice D3 x.taints.length g3, .bool x.cordon] 94) = U at HB2 ⊢
      have hub : U.heap[wr.heap.size]? = some (.cells #[.string x.name, .slice D1 x.cap.length g1, .slice D2 x.labels.length g2, .slice D3 x.taints.length g3, .bool x.cordon] 94 (0, 0)) := by rw [← hU]; exact blk_last _ _
      have hue : Below wr.heap.size wr U := by rw [← hU]; exact alloc_below _ _
      have HOU := Lib.hid (own_below HO.out hue)
      have TU : Hid (Kd.pair.S (vw U []) (.slice D2 x.labels.length g2) x.labels) := T2.out.mono (vw_below (Below.then HBW.out HB2.out))
      obtain ⟨y, yf⟩ := blk_all hub
      clear hU hub hue
      go_wp2_with fail
      refine (Get_calls _ x.labels key _ TU.out).mono ?_
      unfold GetDone
      rw [HD.out]
      rintro e w1 ⟨rfl, hb1⟩
      have HB3 := Lib.hid (Below.then HB2.out hb1)
      have HO1 := Lib.hid (own_below HOU.out hb1)
      clear hb1 y yf
      simp only
      rw [HD.out] at HSN
      cases ok with
      | false =>
        have hs2 : domsL (s.nodes.take (k + 1)) key = domsL (s.nodes.take k) key := by rw [HSN.out]; simp
        have HS2 := Lib.hid hs2
        clear hs2
        go_wp2
        go_roundw
        case rel => exact ⟨k + 1, by omega, by go_num, by rw [HS2.out]; exact HO1, HB3.out⟩
        case measure => simp [intOf]; omega
      | true =>
        have hs2 : domsL (s.nodes.take (k + 1)) key = domsL (s.nodes.take k) key ++ [d] := by rw [HSN.out]; simp
        have HS2 := Lib.hid hs2
        clear hs2
        have hsz1 := HB3.out.size
        go_wp2_with (at_builtin; refine wpList_append_own _ rfl _ _ 53 rfl W.heap.size 9 i0 (.string ⟨#[]⟩) 1 16 Tryz.underlying53 hi hz0 hz1 hz2 rfl (by decide) _ _ _ rfl (HO1.out.alloc _) ⟨w1.heap.size, 0, none⟩ 1 1 [.string d] rfl rfl (one_new _ _ _) (by simp [Value.oneCell']) (by simp only [maxLen]; omega) (by omega) (by simp; omega) ?_)
        intro v' w2 hown' hgrow _
        have HO2 : Hid (w2.ownsRow W.heap.size 9 1 v' (domsL (s.nodes.take (k + 1)) key).length (((domsL (s.nodes.take (k + 1)) key).map bs).map encStr)) := by
          show World.ownsRow _ _ _ _ _ _ _
          rw [HS2.out, List.length_append, List.map_append, List.map_append, List.map_map]; exact hown'
        have HB4 := Lib.hid ((HB3.out.alloc hsz1 _).grown hgrow (by simp; omega) (fun q hq => (HO1.out.lt q hq).1))
        clear hown' hgrow
        go_wp2
        go_roundw
        case rel => exact ⟨k + 1, by omega, by go_num, HO2.out, HB4.out⟩
        case measure => simp [intOf]; omega
    · obtain rfl : k = s.nodes.length := by omega
      have ho := HO.out
      rw [List.take_length] at ho
      have hdl := domsL_len s.nodes key
      have hdv : domsV s.nodes key = insAll ((domsL s.nodes key).map bs) := rfl
      obtain ⟨ss, hss⟩ : ∃ ss, (domsL s.nodes key).map bs = ss := ⟨_, rfl⟩
      have hsl : (domsL s.nodes key).length = ss.length := by rw [← hss, List.length_map]
      rw [hss, hsl] at ho
      rw [hss] at hdv
      have HDV := Lib.hid hdv
      rw [hsl] at hdl
      have HO3 := Lib.hid (own_base ho HBW.out.size)
      have HB3 := Lib.hid (Below.then HBW.out HB.out)
      clear HO ho hss hsl hdv
      rcases HO3.out.2 with ⟨rfl, h0⟩ | ⟨g1, cap1, cur1, rfl, -⟩
      · have he : ss = [] := List.eq_nil_of_length_eq_zero h0
        clear h0
        have HE := Lib.hid he
        clear he
        go_wp2_with (first
          | (go_at_call 257; refine (Tryz.slices_Sort_string_none none 0 _).mono ?_; rintro e w' ⟨rfl, rfl⟩)
          | (go_at_call 258; refine (Tryz.slices_Compact_string_empty none 0 _).mono ?_; rintro e w' ⟨rfl, rfl⟩))
        go_ret
        rw [HDV.out, HE.out]
        exact ⟨_, rfl, World.ownsRow_nil _ _ _ _, HB3.out⟩
      · obtain ⟨g, cap, hv, hbg, hgl, hncap, hcm, hlen, hH⟩ := Lib.holds_of_ownsRow HO3.out (by simp)
        cases hv
        have hsort := Tryz.slices_Sort_string g1 0 cap1 ss wr hH hgl (by omega)
        have HX := Lib.hid (And.intro hbg (And.intro hgl (And.intro hncap hH)))
        have HSO := Lib.hid hsort
        clear hsort hbg hgl hncap hH
        go_wp2_with fail
        refine HSO.out.mono ?_
        rintro e w2 ⟨rfl, nn, os, rfl⟩
        have hl2 : (ss.mergeSort fun x y => decide (x ≤ y)).length = ss.length := List.length_mergeSort ss
        have hH2 : Holds encStr (grow (putRow encStr (Sort.ahead wr nn) g1 0 (ss.mergeSort fun x y => decide (x ≤ y)).toArray) os) g1 0 (ss.mergeSort fun x y => decide (x ≤ y)).toArray :=
          holds_grow encStr _ os g1 0 _ (by simpa [putRow, mapBlock, Sort.ahead] using HX.out.2.1) (holds_putRow encStr _ g1 0 _ _ (holds_ahead encStr wr nn g1 0 _ HX.out.2.2.2) (by simp))
        have hcomp := Tryz.slices_Compact_string g1 0 cap1 (ss.mergeSort fun x y => decide (x ≤ y)) _ hH2 (by omega) (by have := HX.out.2.2.1; omega)
        rw [hl2] at hcomp
        have HCO := Lib.hid hcomp
        clear hcomp hH2 hl2
        go_wp2_with fail
        refine HCO.out.mono ?_
        rintro e w3 ⟨rfl, q, rfl⟩
        go_wp2
        go_ret
        rw [HDV.out]
        exact doms_left HO3.out HB3.out HX.out.1 rfl
end Go.Proofs.YtnmhicgbdalniaaGreatDoor
namespace Go.Proofs.YtnmhicgbdalniaaGreatDoor
open Go.RowKit Go.Sort

theorem own_empty (w : World) (T : TypeId) : (w.alloc (.cells #[] T)).ownsRow w.heap.size T 1 (.slice (some ⟨w.heap.size, 0, none⟩) 0 0) 0 [] :=
  ⟨rfl, .inr ⟨w.heap.size, 0, #[], rfl, Nat.le_refl _, blk_last _ _, Nat.le_refl _, by simp [maxLen], rfl, rfl⟩⟩
/-- What a row of strings of the call's own is, to read. -/
theorem own_view {w : World} {base : Nat} {v : Value} {l : List (List UInt8)} (h : w.ownsRow base 9 1 v l.length (l.map encStr)) :
    (v = .slice none 0 0 ∧ l = []) ∨ ∃ g c, v = .slice (some ⟨g, 0, none⟩) l.length c ∧ base ≤ g ∧ g < w.heap.size ∧ l.length ≤ c ∧ c ≤ maxLen ∧ ∀ j, (hj : j < l.length) → w.cell? ⟨g, j, none⟩ = some (.string (ba l[j])) := by
  rcases h.2 with ⟨h1, h0⟩ | ⟨g1, cap1, cur1, h1, -⟩
  · exact .inl ⟨h1, List.eq_nil_of_length_eq_zero h0⟩
  · obtain ⟨g, c, h2, hb, hg, hn, hm, -, hH⟩ := Lib.holds_of_ownsRow h (by rw [h1]; simp)
    refine .inr ⟨g, c, h2, hb, hg, hn, hm, fun j hj => ?_⟩
    have := (hH j (by simpa using hj)).1
    rw [Nat.zero_add, getElem!_pos _ j (by simpa using hj)] at this
    simpa [encStr, ba] using this
theorem insB_pass {v : List UInt8} : ∀ {l : List (List UInt8)} {q : Nat}, q ≤ l.length → (∀ j, (hj : j < l.length) → j < q → l[j] < v) → insB v l = l.take q ++ insB v (l.drop q)
  | l, 0, _, _ => by simp
  | [], q + 1, h, _ => by simp at h
  | a :: r, q + 1, h, hp => by
    have h0 : a < v := hp 0 (by simp) (by omega)
    rw [insB, if_pos h0, List.take_succ_cons, List.drop_succ_cons, List.cons_append, insB_pass (q := q) (by simpa using h) (fun j hj hq => by have := hp (j + 1) (by simpa using hj) (by omega); simpa using this)]
theorem insB_all {v : List UInt8} {l : List (List UInt8)} (hp : ∀ j, (hj : j < l.length) → j < l.length → l[j] < v) : insB v l = l ++ [v] := by
  rw [insB_pass (Nat.le_refl _) hp, List.take_length, List.drop_length]; rfl
theorem insB_same {v : List UInt8} {l : List (List UInt8)} {q : Nat} (h : q < l.length) (hp : ∀ j, (hj : j < l.length) → j < q → l[j] < v) (hv : l[q] = v) : insB v l = l := by
  rw [insB_pass (Nat.le_of_lt h) hp, List.drop_eq_getElem_cons h, insB, if_neg (by rw [hv]; exact Std.lt_irrefl), if_pos hv, ← List.drop_eq_getElem_cons h, List.take_append_drop]
theorem insB_here {v : List UInt8} {l : List (List UInt8)} {q : Nat} (h : q < l.length) (hp : ∀ j, (hj : j < l.length) → j < q → l[j] < v) (h1 : ¬ l[q] < v) (h2 : l[q] ≠ v) : insB v l = l.take q ++ v :: l.drop q := by
  rw [insB_pass (Nat.le_of_lt h) hp]
  congr 1
  rw [List.drop_eq_getElem_cons h, insB, if_neg h1, if_neg h2]
end Go.Proofs.YtnmhicgbdalniaaGreatDoor
