import Derived.Test.YthjbhnogndgojaaDoorFrameN
namespace Go.Proofs.YthjbhnogndgojaaDoor
open Go.RowKit

/-! Journals in plain words, and in a world. -/
structure Jn where
  room : Int
  b : List UInt8
  lasts : Nat
  down : Bool

def newV (room : Int) : Jn := { room := room, b := [], lasts := 0, down := false }
def appendV (s : Jn) (t : List UInt8) : Jn × Int :=
  if s.down = true then (s, 16)
  else if (putV s.b t).2 ≠ 0 then (s, (putV s.b t).2)
  else if s.room < (putV s.b t).1.length then (s, 7)
  else ({ s with b := (putV s.b t).1 }, 0)
def syncV (s : Jn) : Jn := if s.down = true then s else { s with lasts := s.b.length }
/-- How many of the bytes that wait stay. -/
def keptV (s : Jn) (keep : Int) : Nat := (min (max keep 0) ((s.b.length : Int) - s.lasts)).toNat
def crashV (s : Jn) (keep : Int) : Jn := { s with b := s.b.take (s.lasts + keptV s keep), lasts := s.lasts + keptV s keep, down := true }
def recoverV (s : Jn) : Jn × Nat × Int :=
  if s.down = false then (s, 0, 17)
  else ({ s with b := s.b.take (allV s.b).2, lasts := (allV s.b).2, down := false }, (allV s.b).1.length, 0)
def recordsV (s : Jn) : List (List UInt8) := if s.down = true then [] else (allV s.b).1
def lastsV (s : Jn) : Nat := if s.down = true then 0 else (allV (s.b.take s.lasts)).1.length

/-- What a journal keeps to. -/
structure Jn.Ok (s : Jn) : Prop where
  lasts : s.lasts ≤ s.b.length
  room : (s.b.length : Int) ≤ s.room
  most : s.room ≤ 1048576
theorem ok_new {room : Int} (h : 1 ≤ room) (k : room ≤ 1048576) : (newV room).Ok := ⟨Nat.le_refl _, by show ((0 : Nat) : Int) ≤ room; omega, k⟩
theorem Jn.Ok.append {s : Jn} (h : s.Ok) (t : List UInt8) : (appendV s t).1.Ok := by
  unfold appendV
  split
  · exact h
  · split
    · exact h
    · split
      · exact h
      · rename_i h1 h2 h3
        refine ⟨?_, by simp only; omega, h.most⟩
        have h4 : s.b.length ≤ (putV s.b t).1.length := by
          unfold putV
          split <;> simp
        have := h.lasts
        simp only; omega
theorem Jn.Ok.sync {s : Jn} (h : s.Ok) : (syncV s).Ok := by
  unfold syncV
  split
  · exact h
  · exact ⟨Nat.le_refl _, h.room, h.most⟩
theorem kept_le {s : Jn} (h : s.Ok) (keep : Int) : s.lasts + keptV s keep ≤ s.b.length := by
  have := h.lasts
  unfold keptV; omega
theorem Jn.Ok.crash {s : Jn} (h : s.Ok) (keep : Int) : (crashV s keep).Ok := by
  have h1 := kept_le h keep
  have h2 := h.room
  refine ⟨?_, ?_, h.most⟩
  · simp only [crashV, List.length_take]; omega
  · simp only [crashV, List.length_take]; omega
theorem Jn.Ok.recover {s : Jn} (h : s.Ok) : (recoverV s).1.Ok := by
  unfold recoverV
  split
  · exact h
  · have h1 := (allV_le s.b).2.2
    have h2 := h.room
    refine ⟨?_, ?_, h.most⟩
    · simp only [List.length_take]; omega
    · simp only [List.length_take]; omega
theorem Jn.Ok.len {s : Jn} (h : s.Ok) : s.b.length ≤ 1048576 := by
  have := h.room; have := h.most; omega

/-- w' is w but for the blocks of M; what is new lies behind. -/
structure Bar (M : List Nat) (w w' : World) : Prop where
  os : w'.os = w.os
  tape : w'.tape = w.tape
  output : w'.output = w.output
  size : w.heap.size ≤ w'.heap.size
  block : ∀ k, k < w.heap.size → k ∉ M → w'.heap[k]? = w.heap[k]?
theorem Bar.refl (M : List Nat) (w : World) : Bar M w w := ⟨rfl, rfl, rfl, Nat.le_refl _, fun _ _ _ => rfl⟩
theorem Bar.of_below {M : List Nat} {w w' : World} (h : Below w.heap.size w w') : Bar M w w' := ⟨h.os, h.tape, h.output, h.size, fun k hk _ => h.block k hk⟩
theorem Bar.trans {M : List Nat} {a b c : World} (h : Bar M a b) (k : Bar M b c) : Bar M a c :=
  ⟨k.os.trans h.os, k.tape.trans h.tape, k.output.trans h.output, Nat.le_trans h.size k.size, fun x hx hm => (k.block x (Nat.lt_of_lt_of_le hx h.size) hm).trans (h.block x hx hm)⟩
theorem Bar.sub {M M' : List Nat} {w w' : World} (h : Bar M w w') (hm : ∀ x, x ∈ M → x ∈ M') : Bar M' w w' :=
  ⟨h.os, h.tape, h.output, h.size, fun k hk hn => h.block k hk (fun e => hn (hm k e))⟩
theorem Bar.setCell {M : List Nat} {a w : World} (h : Bar M a w) {p : Addr} (hp : p.block ∈ M) (u : Value) : Bar M a (w.setCell p u) :=
  ⟨h.os, h.tape, h.output, by simpa [World.setCell] using h.size, fun k hk hn => by
    rw [Below.heap_setCell w p u k (fun e => hn (e ▸ hp))]; exact h.block k hk hn⟩
theorem Bar.alloc {M : List Nat} {a w : World} (h : Bar M a w) (o : Obj) : Bar M a (w.alloc o) :=
  h.trans (Bar.of_below ((Below.refl _ _).alloc (Nat.le_refl _) o))
theorem Bar.drewN {M : List Nat} {a w : World} (h : Bar M a w) (n : Nat) : Bar M a (w.drewN n) := ⟨h.os, h.tape, h.output, h.size, h.block⟩
theorem Bar.drew {M : List Nat} {a w : World} (h : Bar M a w) : Bar M a w.drew := ⟨h.os, h.tape, h.output, h.size, h.block⟩
theorem Bar.below {M : List Nat} {w w' : World} {B : Nat} (h : Bar M w w') (hm : ∀ x, x ∈ M → B ≤ x) (hB : B ≤ w.heap.size) : Below B w w' :=
  ⟨h.os, h.tape, h.output, h.size, fun k hk => h.block k (by omega) (fun e => by have := hm k e; omega)⟩
theorem Bar.of_but {M : List Nat} {w w' : World} {b : Nat} (h : But b w w') (hb : b ∈ M) : Bar M w w' :=
  ⟨h.os, h.tape, h.output, h.size, fun k hk hn => h.block k hk (fun e => hn (e ▸ hb))⟩
theorem vw_bar {M M' : List Nat} {w w' : World} (h : Bar M w w') (hm : ∀ x, x ∈ M → x ∈ M') : (vw w M').le (vw w' M') := fun k o hk => by
  obtain ⟨h1, h2⟩ := vw_eq hk
  exact vw_mk h1 ((h.block k (blk_lt h2) (fun e => h1 (hm k e))).trans h2)

/-- An object of four cells. -/
theorem four {w : World} {p : Nat} {a b c d : Value} {T : TypeId} (h : w.heap[p]? = some (.cells #[a, b, c, d] T (0, 0))) :
    w.cell? ⟨p, 0, none⟩ = some a ∧ w.cell? ⟨p, 1, none⟩ = some b ∧ w.cell? ⟨p, 2, none⟩ = some c ∧ w.cell? ⟨p, 3, none⟩ = some d ∧ ∀ j, w.frozen? ⟨p, j, none⟩ = false := by
  refine ⟨by simp [World.cell?, h], by simp [World.cell?, h], by simp [World.cell?, h], by simp [World.cell?, h], fun j => by simp [World.frozen?, h]⟩
theorem four_set {w : World} {p j : Nat} {cs : Array Value} {T : TypeId} (h : w.heap[p]? = some (.cells cs T (0, 0))) (u : Value) :
    (w.setCell ⟨p, j, none⟩ u).heap[p]? = some (.cells (cs.setIfInBounds j u) T (0, 0)) := by
  simp [World.setCell, Array.getElem?_modify, h]

/-- A journal lies at p. -/
def JAt (T : TypeId) (M : List Nat) (w : World) (p : Nat) (s : Jn) : Prop :=
  p ∈ M ∧ s.Ok ∧ ∃ A c, w.heap[p]? = some (.cells #[.int .i64 s.room, .slice A s.b.length c, .int .i64 s.lasts, .bool s.down] T (0, 0)) ∧ Kd.u8.S (vw w M) (.slice A s.b.length c) s.b
theorem JAt.on {T : TypeId} {M : List Nat} {w w' : World} {p : Nat} {s : Jn} {N : List Nat} (h : JAt T M w p s) (hb : Bar N w w') (hN : ∀ x, x ∈ N → x ∈ M) (hp : p ∉ N) : JAt T M w' p s := by
  obtain ⟨h1, h2, A, c, h3, h4⟩ := h
  exact ⟨h1, h2, A, c, (hb.block p (blk_lt h3) hp).trans h3, h4.mono (vw_bar hb hN)⟩
theorem JAt.more {T : TypeId} {M : List Nat} {w w' : World} {p q : Nat} {s : Jn} (h : JAt T M w q s) (hb : Below w.heap.size w w') (hp : w.heap.size ≤ p) : JAt T (p :: M) w' q s := by
  obtain ⟨h1, h2, A, c, h3, h4⟩ := h
  refine ⟨List.mem_cons_of_mem _ h1, h2, A, c, (hb.block q (blk_lt h3)).trans h3, h4.mono (vw_grow hb fun b hm => ?_)⟩
  rcases List.mem_cons.1 hm with rfl | e
  · exact .inr hp
  · exact .inl e
theorem JAt.lt {T : TypeId} {M : List Nat} {w : World} {p : Nat} {s : Jn} (h : JAt T M w p s) : p < w.heap.size := by
  obtain ⟨_, _, A, c, h3, _⟩ := h
  exact blk_lt h3
end Go.Proofs.YthjbhnogndgojaaDoor
