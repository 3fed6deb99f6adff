import Derived.Test.YtnmhicgbdalniaaGreatDoorShelf
import Derived.Test.YtnmhicgbdalniaaGreatDoorMs22
import Derived.Test.YtnmhicgbdalniaaGreatDoorMs24
import Derived.Test.YtnmhicgbdalniaaGreatDoorMs25
import Derived.Deep.RegionHeld3
import Derived.Deep.Light
namespace Go.Proofs.YtnmhicgbdalniaaGreatDoor
open Go.RowKit Go.Shelf

/-! Selectors, taints, amounts: the program's side. -/
set_option maxHeartbeats 4000000 in
set_option maxRecDepth 100000 in
theorem holds_calls (v : Value) (t : Term) (s : List Pair) (w : World) (hs : Kd.pair.S (vw w []) v s) :
    Calls Tryz.prog 175 #[.agg #[.int .i64 t.op, .string t.key, .string t.val], v] w (BoolDone (holdsV t s) w) := by
  have HS := Lib.hid hs
  clear hs
  go_enter Tryz.func175, Tryz.ntmps175
  go_wp2_with fail
  refine (Get_calls v s t.key _ (HS.out.mono (vw_alloc _))).mono ?_
  rintro e w1 ⟨rfl, hb⟩
  have hq := (hb.block w.heap.size (by simp)).trans (blk_last w _)
  have HB := Lib.hid (Below.then (alloc_below w _) hb)
  obtain ⟨z, zf⟩ := blk_all hq
  have hv : holdsV t s = if t.op = 1 then (getV s t.key).2 && decide ((getV s t.key).1 = t.val) else if t.op = 2 then !(getV s t.key).2 || !decide ((getV s t.key).1 = t.val) else if t.op = 3 then (getV s t.key).2 else decide (t.op = 4) && !(getV s t.key).2 := rfl
  have e1 := eq_beq (getV s t.key).1 t.val
  obtain ⟨a, b, hg⟩ : ∃ a b, getV s t.key = (a, b) := ⟨_, _, rfl⟩
  rw [hg] at hv e1 ⊢
  simp only at hv e1 ⊢
  obtain ⟨m, hm⟩ : ∃ m, decide (a = t.val) = m := ⟨_, rfl⟩
  rw [hm] at e1 hv
  clear hb hq hg hm
  by_cases h1 : t.op = 1
  · rw [if_pos h1] at hv
    have HV := Lib.hid hv
    clear hv
    cases b <;> cases m <;> (go_wp2; go_ret; exact ⟨ret_bool (by rw [HV.out]; rfl), HB.out⟩)
  rw [if_neg h1] at hv
  by_cases h2 : t.op = 2
  · rw [if_pos h2] at hv
    have HV := Lib.hid hv
    clear hv
    cases b <;> cases m <;> (go_wp2; go_ret; exact ⟨ret_bool (by rw [HV.out]; rfl), HB.out⟩)
  rw [if_neg h2] at hv
  by_cases h3 : t.op = 3
  · rw [if_pos h3] at hv
    have HV := Lib.hid hv
    clear hv
    go_wp2
    go_ret
    exact ⟨ret_bool HV.out.symm, HB.out⟩
  rw [if_neg h3] at hv
  have t1 : (t.op == 1) = false := by simpa using h1
  have t2 : (t.op == 2) = false := by simpa using h2
  have t3 : (t.op == 3) = false := by simpa using h3
  by_cases h4 : t.op = 4
  · rw [decide_eq_true h4] at hv
    have HV := Lib.hid hv
    clear hv
    cases b <;> (go_wp2; go_ret; exact ⟨ret_bool (by rw [HV.out]; rfl), HB.out⟩)
  · rw [decide_eq_false h4] at hv
    have t4 : (t.op == 4) = false := by simpa using h4
    have HV := Lib.hid hv
    clear hv
    cases b <;> (go_wp2; go_ret; exact ⟨ret_bool (by rw [HV.out]; rfl), HB.out⟩)
set_option maxHeartbeats 4000000 in
set_option maxRecDepth 100000 in
theorem match1_calls (v : Value) (t : Term) (s : List Pair) (b : Nat) (w : World) (hs : Kd.pair.S (vw w []) v s) (hq : w.heap[b]? = some (.cells #[v] 30 (0, 0))) :
    Calls Tryz.prog 174 #[.agg #[.int .i64 t.op, .string t.key, .string t.val], .pointer (some ⟨b, 0, none⟩)] w (BoolDone (!holdsV t s) w) := by
  obtain ⟨A, cap, rfl, hs⟩ := hs.val
  have HS := Lib.hid hs
  have HQ := Lib.hid ((blk_old w (.cells #[.int .i64 t.op, .string t.key, .string t.val] 234) (blk_lt hq)).trans hq)
  have hlt := blk_lt hq
  have hne : b ≠ w.heap.size := by omega
  clear hs hq
  obtain ⟨z, zf⟩ := blk_all HQ.out
  go_enter Tryz.func174, Tryz.ntmps174
  go_wp2_with fail
  refine (holds_calls _ t s _ (HS.out.mono (vw_alloc _))).mono ?_
  rintro e w1 ⟨rfl, hb⟩
  have HB := Lib.hid (Below.then (alloc_below w _) hb)
  clear hb z zf
  obtain ⟨m, hm⟩ : ∃ m, holdsV t s = m := ⟨_, rfl⟩
  have HM := Lib.hid hm
  rw [hm]
  clear hm
  cases m <;> (go_wp2; go_ret; exact ⟨ret_bool (by first | rfl | (rw [HM.out]; rfl)), HB.out⟩)
theorem eg_match1 : ∀ args w, (callFunc 174 args).run Tryz.prog w = .ok (.enter 174 args) w := enters_of Tryz.func174 (by kernel_rfl) rfl
set_option maxHeartbeats 4000000 in
set_option maxRecDepth 100000 in
theorem Match_calls (va vb : Value) (l : List Term) (s : List Pair) (w : World) (ha : Kd.term.S (vw w []) va l) (hb : Kd.pair.S (vw w []) vb s) :
    Calls Tryz.prog 98 #[va, vb] w (BoolDone (matchV l s) w) := by
  obtain ⟨A, c, rfl, ha⟩ := ha.val
  obtain ⟨B, c2, rfl, hb⟩ := hb.val
  have hcon := has_calls Kd.term Tryz.isAgg234 Tryz.sizeOf234 (by decide) (fun t => !holdsV t s) 174 #[.pointer (some ⟨w.heap.size, 0, none⟩)] eg_match1 (w0 := w) (w := w.alloc (.cells #[.slice B s.length c2] 30)) (alloc_below _ _) ha
    (fun W x cs hW hk => by
      obtain ⟨rfl, -⟩ := hk
      exact (match1_calls (.slice B s.length c2) x s w.heap.size W (hb.mono (vw_below (Below.then (alloc_below _ _) hW))) ((hW.block _ (by simp)).trans (blk_last _ _))).mono fun e w' h => ⟨h.1, Below.then hW h.2⟩) Tryz.hasTerm
  have HC : Hid (Calls Tryz.prog 173 _ _ _) := hcon
  have hany : matchV l s = !l.any (fun t => !holdsV t s) := by
    unfold matchV
    rw [List.any_eq_not_all_not]; simp
  clear hcon ha hb
  go_enter Tryz.func98, Tryz.ntmps98
  go_wp2_with fail
  refine HC.out.mono ?_
  rintro e w1 ⟨rfl, hb1⟩
  have HB := Lib.hid (Below.then (alloc_below w _) hb1)
  clear hb1
  obtain ⟨m, hm⟩ : ∃ m, l.any (fun t => !holdsV t s) = m := ⟨_, rfl⟩
  rw [hm] at hany ⊢
  have HA := Lib.hid hany
  clear hany hm
  cases m <;> (go_wp2; go_ret; exact ⟨ret_bool HA.out.symm, HB.out⟩)
set_option maxHeartbeats 4000000 in
set_option maxRecDepth 100000 in
theorem bears1_calls (t x : Tnt) (b : Nat) (w : World) (hq : w.heap[b]? = some (.cells #[.string t.key, .string t.val, .bool t.b] 163 (0, 0))) :
    Calls Tryz.prog 224 #[.agg #[.string x.key, .string x.val, .bool x.b], .pointer (some ⟨b, 0, none⟩)] w (BoolDone (bearB t x) w) := by
  have HQ := Lib.hid ((blk_old w (.cells #[.string x.key, .string x.val, .bool x.b] 236) (blk_lt hq)).trans hq)
  have hlt := blk_lt hq
  have hne : b ≠ w.heap.size := by omega
  clear hq
  obtain ⟨z, zf⟩ := blk_all HQ.out
  have e1 := empty_beq x.key
  have e2 := eq_beq x.key t.key
  have e3 := eq_beq x.val t.val
  have hv : bearB t x = ((decide (x.key = ⟨#[]⟩) || decide (x.key = t.key)) && (x.b || decide (x.val = t.val))) := rfl
  obtain ⟨m1, h1⟩ : ∃ m, decide (x.key = ⟨#[]⟩) = m := ⟨_, rfl⟩
  obtain ⟨m2, h2⟩ : ∃ m, decide (x.key = t.key) = m := ⟨_, rfl⟩
  obtain ⟨m3, h3⟩ : ∃ m, decide (x.val = t.val) = m := ⟨_, rfl⟩
  rw [h1] at e1 hv
  rw [h2] at e2 hv
  rw [h3] at e3 hv
  have HV := Lib.hid hv
  clear hv h1 h2 h3
  have hb := alloc_below w (.cells #[.string x.key, .string x.val, .bool x.b] 236)
  have HB := Lib.hid hb
  clear hb
  obtain ⟨m4, h4⟩ : ∃ m, x.b = m := ⟨_, rfl⟩
  rw [h4] at HV HB HQ z zf ⊢
  clear h4
  go_enter Tryz.func224, Tryz.ntmps224
  cases m1 <;> cases m2 <;> cases m3 <;> cases m4 <;> (go_wp2; go_ret; exact ⟨ret_bool (by rw [HV.out]; rfl), HB.out⟩)
theorem eg_bears1 : ∀ args w, (callFunc 224 args).run Tryz.prog w = .ok (.enter 224 args) w := enters_of Tryz.func224 (by kernel_rfl) rfl
set_option maxHeartbeats 4000000 in
set_option maxRecDepth 100000 in
theorem Bears_calls (va : Value) (l : List Tnt) (t : Tnt) (w : World) (ha : Kd.tnt.S (vw w []) va l) :
    Calls Tryz.prog 149 #[va, .agg #[.string t.key, .string t.val, .bool t.b]] w (BoolDone (bearsV l t) w) := by
  obtain ⟨A, c, rfl, ha⟩ := ha.val
  have hcon := has_calls Kd.tnt Tryz.isAgg236 Tryz.sizeOf236 (by decide) (bearB t) 224 #[.pointer (some ⟨w.heap.size, 0, none⟩)] eg_bears1 (w0 := w) (w := w.alloc (.cells #[.string t.key, .string t.val, .bool t.b] 163)) (alloc_below _ _) ha
    (fun W x cs hW hk => by
      obtain ⟨rfl, -⟩ := hk
      exact (bears1_calls t x w.heap.size W ((hW.block _ (by simp)).trans (blk_last _ _))).mono fun e w' h => ⟨h.1, Below.then hW h.2⟩) Tryz.hasTol
  have HC : Hid (Calls Tryz.prog 223 _ _ _) := hcon
  clear hcon ha
  go_enter Tryz.func149, Tryz.ntmps149
  go_wp2_with fail
  refine HC.out.mono ?_
  rintro e w1 ⟨rfl, hb1⟩
  have HB := Lib.hid (Below.then (alloc_below w _) hb1)
  clear hb1
  go_wp2
  go_ret
  exact ⟨rfl, HB.out⟩
set_option maxHeartbeats 4000000 in
set_option maxRecDepth 100000 in
theorem get1_calls (x : Amt) (key : ByteArray) (b : Nat) (w : World) (hq : w.heap[b]? = some (.cells #[.string key] 9 (0, 0))) :
    Calls Tryz.prog 211 #[.agg #[.string x.name, .int .i64 x.n], .pointer (some ⟨b, 0, none⟩)] w (BoolDone (decide (x.name = key)) w) := by
  have HQ := Lib.hid ((blk_old w (.cells #[.string x.name, .int .i64 x.n] 187) (blk_lt hq)).trans hq)
  have hlt := blk_lt hq
  have hne : b ≠ w.heap.size := by omega
  clear hq
  obtain ⟨z, zf⟩ := blk_all HQ.out
  have e1 := eq_beq x.name key
  obtain ⟨m1, h1⟩ : ∃ m, decide (x.name = key) = m := ⟨_, rfl⟩
  rw [h1] at e1 ⊢
  clear h1
  have HB := Lib.hid (alloc_below w (.cells #[.string x.name, .int .i64 x.n] 187))
  go_enter Tryz.func211, Tryz.ntmps211
  go_wp2
  go_ret
  exact ⟨rfl, HB.out⟩
theorem eg_get1 : ∀ args w, (callFunc 211 args).run Tryz.prog w = .ok (.enter 211 args) w := enters_of Tryz.func211 (by kernel_rfl) rfl
theorem idxP_getA (key : ByteArray) : ∀ (l : List Amt) (i : Nat), (idxP (fun x => decide (x.name = key)) l i = -1 ∧ getA l key = 0) ∨ ∃ (k : Nat) (h : k < l.length), idxP (fun x => decide (x.name = key)) l i = ((i + k : Nat) : Int) ∧ getA l key = l[k].n
  | [], _ => .inl ⟨rfl, rfl⟩
  | x :: r, i => by
    by_cases h : x.name = key
    · exact .inr ⟨0, by simp, by simp [idxP, h], by simp [getA, h]⟩
    · rcases idxP_getA key r (i + 1) with ⟨h1, h2⟩ | ⟨k, hk, h1, h2⟩
      · exact .inl ⟨by simp [idxP, h, h1], by simp [getA, h, h2]⟩
      · exact .inr ⟨k + 1, by simp; omega, by simp only [idxP, h, decide_false]; rw [if_neg (by simp), h1]; congr 1; omega, by simp [getA, h, h2]⟩
set_option maxHeartbeats 4000000 in
set_option maxRecDepth 100000 in
theorem Get2_calls (va : Value) (l : List Amt) (key : ByteArray) (w : World) (ha : Kd.amt.S (vw w []) va l) :
    Calls Tryz.prog 128 #[va, .string key] w (fun e w' => e = .returned (.int .i64 (getA l key)) ∧ Below w.heap.size w w') := by
  obtain ⟨A, c, rfl, ha⟩ := ha.val
  obtain ⟨-, hf1, hf2⟩ := ha.form
  have hcon := idx_calls Kd.amt Tryz.isAgg187 Tryz.sizeOf187 (by decide) (fun x => decide (x.name = key)) 211 #[.pointer (some ⟨w.heap.size, 0, none⟩)] eg_get1 (w0 := w) (w := w.alloc (.cells #[.string key] 9)) (alloc_below _ _) ha
    (fun W x cs hW hk => by
      obtain ⟨rfl, -⟩ := hk
      exact (get1_calls x key w.heap.size W ((hW.block _ (by simp)).trans (blk_last _ _))).mono fun e w' h => ⟨h.1, Below.then hW h.2⟩) Tryz.idxAmt
  have HC : Hid (Calls Tryz.prog 210 _ _ _) := hcon
  have HS := Lib.hid ha
  have hcase := idxP_getA key l 0
  clear hcon ha
  go_enter Tryz.func128, Tryz.ntmps128
  go_wp2_with fail
  refine HC.out.mono ?_
  rintro e w1 ⟨rfl, hb1⟩
  have HB := Lib.hid (Below.then (alloc_below w _) hb1)
  clear hb1
  rcases hcase with ⟨h1, h2⟩ | ⟨k, hk, h1, h2⟩
  · have H2 := Lib.hid h2
    rw [h1]
    clear h1 h2
    go_wp2
    go_ret
    exact ⟨by rw [H2.out]; rfl, HB.out⟩
  · obtain ⟨b, off, rfl, hc, -⟩ := (HS.out.mono (vw_below HB.out)).elemN k hk
    have c1 : w1.cell? ⟨b, off + k * 2 + 1, none⟩ = some (.int .i64 l[k].n) := hc 1 _ rfl
    rw [Nat.zero_add] at h1
    have H2 := Lib.hid h2
    rw [h1]
    have b1 : (0 : Int) ≤ (k : Int) := by omega
    have b2 : (k : Int) < (l.length : Int) := by omega
    have b3 : ¬ (k : Int) < 0 := by omega
    clear h1 h2 hc
    go_wp2
    go_ret
    exact ⟨by rw [H2.out]; rfl, HB.out⟩
end Go.Proofs.YtnmhicgbdalniaaGreatDoor
namespace Go.Proofs.YtnmhicgbdalniaaGreatDoor
open Go.RowKit Go.Shelf

/-! What a pod needs, what a node has; the first taint that is not borne: the program's side. -/
set_option maxHeartbeats 4000000 in
set_option maxRecDepth 100000 in
theorem fits1_calls (vb : Value) (x : Amt) (l : List Amt) (b : Nat) (w : World) (hs : Kd.amt.S (vw w []) vb l) (hq : w.heap[b]? = some (.cells #[vb] 28 (0, 0))) :
    Calls Tryz.prog 182 #[.agg #[.string x.name, .int .i64 x.n], .pointer (some ⟨b, 0, none⟩)] w (BoolDone (decide (getA l x.name < x.n)) w) := by
  obtain ⟨A, cap, rfl, hs⟩ := hs.val
  have HS := Lib.hid (hs.mono (vw_below (Below.then (alloc_below w (.cells #[.string x.name, .int .i64 x.n] 187)) (drew_below _))))
  have hlt := blk_lt hq
  have hne : b ≠ w.heap.size := by omega
  have h1 := (blk_old w (.cells #[.string x.name, .int .i64 x.n] 187) hlt).trans hq
  have h2 := blk_last w (.cells #[.string x.name, .int .i64 x.n] 187)
  obtain ⟨z, zf⟩ := blk_all h1
  obtain ⟨y, yf⟩ := blk_all h2
  have HB := Lib.hid (Below.then (alloc_below w (.cells #[.string x.name, .int .i64 x.n] 187)) (drew_below _))
  clear hs hq h1 h2
  go_enter Tryz.func182, Tryz.ntmps182
  go_upto_region 1 with fail
  go_region_held3 (fun w' => (∀ j, w'.cell? ⟨b, j, none⟩ = #[.slice A l.length cap][j]?) ∧ ∀ j, w'.cell? ⟨w.heap.size, j, none⟩ = #[.string x.name, .int .i64 x.n][j]?)
    (first | with_reducible exact ⟨z, y⟩ | go_keep)
    (first
    | (go_at_call 128; (with_reducible refine (Get2_calls _ l x.name _ HS.out).mono ?_); rintro e w1 ⟨rfl, hb⟩; have z1 : ∀ j, w1.cell? ⟨b, j, none⟩ = #[.slice A l.length cap][j]? := (fun j => (hb.cell (p := ⟨b, j, none⟩) (show b < (w.alloc _).drew.heap.size by show b < (w.alloc _).heap.size; simp; omega)).trans (z j)); have y1 : ∀ j, w1.cell? ⟨w.heap.size, j, none⟩ = #[.string x.name, .int .i64 x.n][j]? := (fun j => (hb.cell (p := ⟨w.heap.size, j, none⟩) (show w.heap.size < (w.alloc _).drew.heap.size by show w.heap.size < (w.alloc _).heap.size; simp)).trans (y j)); replace HB := Lib.hid (Below.then HB.out hb); clear z zf y yf hb; have z := z1; have y := y1; clear z1 y1))
  obtain ⟨g, hg⟩ : ∃ g, getA l x.name = g := ⟨_, rfl⟩
  have HM := Lib.hid hg
  rw [hg]
  clear hg z y
  go_wp2
  go_ret
  exact ⟨ret_bool (by rw [HM.out]), HB.out⟩
theorem eg_fits1 : ∀ args w, (callFunc 182 args).run Tryz.prog w = .ok (.enter 182 args) w := enters_of Tryz.func182 (by kernel_rfl) rfl
set_option maxHeartbeats 4000000 in
set_option maxRecDepth 100000 in
theorem Fits2_calls (va vb : Value) (a l : List Amt) (w : World) (ha : Kd.amt.S (vw w []) va a) (hb : Kd.amt.S (vw w []) vb l) :
    Calls Tryz.prog 102 #[va, vb] w (BoolDone (fitsV a l) w) := by
  obtain ⟨A, c, rfl, ha⟩ := ha.val
  obtain ⟨B, c2, rfl, hb⟩ := hb.val
  have hcon := has_calls Kd.amt Tryz.isAgg187 Tryz.sizeOf187 (by decide) (fun x => decide (getA l x.name < x.n)) 182 #[.pointer (some ⟨w.heap.size, 0, none⟩)] eg_fits1 (w0 := w) (w := w.alloc (.cells #[.slice B l.length c2] 28)) (alloc_below _ _) ha
    (fun W x cs hW hk => by
      obtain ⟨rfl, -⟩ := hk
      exact (fits1_calls (.slice B l.length c2) x l w.heap.size W (hb.mono (vw_below (Below.then (alloc_below _ _) hW))) ((hW.block _ (by simp)).trans (blk_last _ _))).mono fun e w' h => ⟨h.1, Below.then hW h.2⟩) Tryz.hasAmt
  have HC : Hid (Calls Tryz.prog 181 _ _ _) := hcon
  have hany : fitsV a l = !a.any (fun x => decide (getA l x.name < x.n)) := by
    unfold fitsV
    rw [List.any_eq_not_all_not, Bool.not_not]
    congr 1
    funext x
    rw [← decide_not]
    exact decide_eq_decide.2 (by omega)
  clear hcon ha hb
  go_enter Tryz.func102, Tryz.ntmps102
  go_wp2_with fail
  refine HC.out.mono ?_
  rintro e w1 ⟨rfl, hb1⟩
  have HB := Lib.hid (Below.then (alloc_below w _) hb1)
  clear hb1
  obtain ⟨m, hm⟩ : ∃ m, a.any (fun x => decide (getA l x.name < x.n)) = m := ⟨_, rfl⟩
  rw [hm] at hany ⊢
  have HA := Lib.hid hany
  clear hany hm
  cases m <;> (go_wp2; go_ret; exact ⟨ret_bool HA.out.symm, HB.out⟩)
theorem worstV_at (l : List Tnt) {t : List Tnt} {k : Nat} (h : k < t.length) : worstV l (t.drop k) = if (t[k].b && !bearsV l t[k]) = true then (t[k], true) else worstV l (t.drop (k + 1)) := by
  rw [List.drop_eq_getElem_cons h]; rfl
def WorstDone (r : Tnt × Bool) (w : World) (e : Ending) (w' : World) : Prop := e = .returned (.tuple #[.agg #[.string r.1.key, .string r.1.val, .bool r.1.b], .bool r.2]) ∧ Below w.heap.size w w'
set_option maxHeartbeats 4000000 in
set_option maxRecDepth 100000 in
theorem Worst_calls (va vb : Value) (l t : List Tnt) (w : World) (ha : Kd.tnt.S (vw w []) va l) (hb : Kd.tnt.S (vw w []) vb t) :
    Calls Tryz.prog 99 #[va, vb] w (WorstDone (worstV l t) w) := by
  obtain ⟨A, c, rfl, ha⟩ := ha.val
  obtain ⟨B, c2, rfl, hb⟩ := hb.val
  obtain ⟨-, hf1, hf2⟩ := hb.form
  have HA := Lib.hid ha
  have HS := Lib.hid hb
  clear ha hb
  go_enter Tryz.func99, Tryz.ntmps99
  go_wp2
  go_loopw [10] (fun i wr => ∃ k : Nat, k ≤ t.length ∧ i = .int .i64 k ∧ Hid (worstV l (t.drop k) = worstV l t) ∧ Hid (Below w.heap.size w wr) ∧ Hid (wr.heap[w.heap.size]? = some (.cells #[.string ⟨#[]⟩, .string ⟨#[]⟩, .bool false] 163 (0, 0)))) (fun i _ => t.length - (intOf i).toNat)
  case atStart => exact ⟨0, Nat.zero_le _, rfl, rfl, alloc_below _ _, blk_last _ _⟩
  case round =>
    obtain ⟨k, hk, rfl, HG, HB, HR0⟩ := hrel
    by_cases hlt : k < t.length
    · obtain ⟨b, off, rfl, hc, _⟩ := (HS.out.mono (vw_below HB.out)).elemN k hlt
      have hg := HG.out
      rw [worstV_at l hlt] at hg
      have HC : Hid (wr.rangeAt b (off + k * 3) [.string t[k].key, .string t[k].val, .bool t[k].b]) := hc
      obtain ⟨x, hx⟩ : ∃ x, t[k] = x := ⟨_, rfl⟩
      rw [hx] at hg HC
      obtain ⟨xk, xv, xb⟩ := x
      simp only at hg HC
      have HG2 := Lib.hid hg
      clear hg hc HG hx
      have HB2 : Hid (Below w.heap.size w (wr.alloc (.cells #[.string xk, .string xv, .bool xb] 163))) := Below.then HB.out (alloc_below _ _)
      have HR1 : Hid ((wr.alloc (.cells #[.string xk, .string xv, .bool xb] 163)).heap[w.heap.size]? = some (.cells #[.string ⟨#[]⟩, .string ⟨#[]⟩, .bool false] 163 (0, 0))) := (blk_old _ _ (blk_lt HR0.out)).trans HR0.out
      have HX1 : Hid ((wr.alloc (.cells #[.string xk, .string xv, .bool xb] 163)).heap[wr.heap.size]? = some (.cells #[.string xk, .string xv, .bool xb] 163 (0, 0))) := blk_last _ _
      go_upto_region 4 with (with_reducible refine wpList_load_mid rfl 163 _ rfl b (off + k * 3) rfl _ _ HC.out Tryz.underlying163 rfl (by kernel_rfl) ?_)
      generalize wr.alloc (.cells #[.string xk, .string xv, .bool xb] 163) = W at HB2 HR1 HX1 ⊢
      obtain ⟨y, yf⟩ := blk_all HX1.out
      cases xb with
      | false =>
        have hg := HG2.out
        rw [if_neg (by simp)] at hg
        have HG3 := Lib.hid hg
        clear hg
        go_wp2
        go_roundw
        case rel => exact ⟨k + 1, by omega, by go_num, HG3, HB2, HR1⟩
        case measure => simp [intOf]; omega
      | true =>
        go_wp2_with fail
        refine (Bears_calls _ l ⟨xk, xv, true⟩ _ (HA.out.mono (vw_below HB2.out))).mono ?_
        rintro e w1 ⟨rfl, hb⟩
        have HB3 := Lib.hid (Below.then HB2.out hb)
        have HR2 := Lib.hid ((hb.block _ (blk_lt HR1.out)).trans HR1.out)
        have HX2 := Lib.hid ((hb.block _ (blk_lt HX1.out)).trans HX1.out)
        have hg := HG2.out
        obtain ⟨m, hm⟩ : ∃ m, bearsV l ⟨xk, xv, true⟩ = m := ⟨_, rfl⟩
        rw [hm] at hg ⊢
        clear hm hb y yf
        cases m with
        | true =>
          rw [if_neg (by simp)] at hg
          have HG3 := Lib.hid hg
          clear hg
          go_wp2
          go_roundw
          case rel => exact ⟨k + 1, by omega, by go_num, HG3, HB3, HR2⟩
          case measure => simp [intOf]; omega
        | false =>
          rw [if_pos (by simp)] at hg
          have HG3 := Lib.hid hg
          clear hg
          obtain ⟨y, yf⟩ := blk_all HX2.out
          obtain ⟨z, zf⟩ := blk_all HR2.out
          go_wp2
          have hbl := Below.setCell (Below.setCell (Below.setCell HB3.out (p := ⟨w.heap.size, 0, none⟩) (Nat.le_refl _) (.string xk)) (p := ⟨w.heap.size, 1, none⟩) (Nat.le_refl _) (.string xv)) (p := ⟨w.heap.size, 2, none⟩) (Nat.le_refl _) (.bool true)
          exact ret_row2 (cs := [.string xk, .string xv, .bool true]) rfl rfl ((blk_set (blk_set (blk_set HR2.out _) _) _).trans rfl) Tryz.underlying163 rfl (by kernel_rfl) rfl ⟨by rw [← HG3.out]; rfl, hbl⟩
    · obtain rfl : k = t.length := by omega
      have hr := HG.out
      rw [List.drop_length] at hr
      have HR := Lib.hid hr
      clear hr
      obtain ⟨z, zf⟩ := blk_all HR0.out
      go_wp2
      have hbl := Below.setCell (Below.setCell (Below.setCell HB.out (p := ⟨w.heap.size, 0, none⟩) (Nat.le_refl _) (.string ⟨#[]⟩)) (p := ⟨w.heap.size, 1, none⟩) (Nat.le_refl _) (.string ⟨#[]⟩)) (p := ⟨w.heap.size, 2, none⟩) (Nat.le_refl _) (.bool false)
      exact ret_row2 (cs := [.string ⟨#[]⟩, .string ⟨#[]⟩, .bool false]) rfl rfl ((blk_set (blk_set (blk_set HR0.out _) _) _).trans rfl) Tryz.underlying163 rfl (by kernel_rfl) rfl ⟨by rw [← HR.out]; rfl, hbl⟩
end Go.Proofs.YtnmhicgbdalniaaGreatDoor
