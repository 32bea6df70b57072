/- Books: the model, New, Len, Lost, Get. -/
import Derived.Test.YtpmnhieehkjnmaaBkA
import Derived.Test.YtpmnhieehkjnmaaCnt
namespace Go.Proofs.Ytpmnhieehkjnmaa
open Go.RowKit
set_option linter.unusedVariables false

structure Bk where
  L : List Ev
  room : Int
  lost : Int
def Bk.put (B : Bk) (e : Ev) : Bk := if (B.L.length : Int) = B.room then { B with L := B.L.drop 1 ++ [e], lost := B.lost + 1 } else { B with L := B.L ++ [e] }
def Bk.puts (B : Bk) (l : List Ev) : Bk := l.foldl Bk.put B
structure Bk.Ok (B : Bk) : Prop where
  room : 1 ≤ B.room ∧ B.room ≤ 256
  len : (B.L.length : Int) ≤ B.room
  lost : 0 ≤ B.lost
theorem Bk.Ok.put {B : Bk} (h : B.Ok) (e : Ev) : (B.put e).Ok := by
  have h1 := h.room; have h2 := h.len; have h3 := h.lost
  unfold Bk.put
  by_cases hf : (B.L.length : Int) = B.room
  · rw [if_pos hf]; exact ⟨h1, by simp; omega, by simp; omega⟩
  · rw [if_neg hf]; exact ⟨h1, by simp; omega, h3⟩
theorem Bk.put_room (B : Bk) (e : Ev) : (B.put e).room = B.room := by unfold Bk.put; split <;> rfl
theorem Bk.puts_room (B : Bk) (l : List Ev) : (B.puts l).room = B.room := by
  unfold Bk.puts
  induction l generalizing B with
  | nil => rfl
  | cons e l ih => rw [List.foldl_cons, ih, Bk.put_room]
theorem Bk.Ok.puts {B : Bk} (h : B.Ok) (l : List Ev) : (B.puts l).Ok := by
  unfold Bk.puts
  induction l generalizing B with
  | nil => exact h
  | cons e l ih => exact ih (h.put e)
theorem Bk.put_lost (B : Bk) (e : Ev) : (B.put e).lost ≤ B.lost + 1 := by unfold Bk.put; split <;> simp <;> omega
theorem Bk.puts_lost (B : Bk) (l : List Ev) : (B.puts l).lost ≤ B.lost + l.length := by
  unfold Bk.puts
  induction l generalizing B with
  | nil => simp
  | cons e l ih => have := ih (B.put e); have := B.put_lost e; simp only [List.foldl_cons, List.length_cons]; omega
theorem Bk.puts_snoc (B : Bk) (l : List Ev) {k : Nat} {e : Ev} (h : l[k]? = some e) : B.puts (l.take (k + 1)) = (B.puts (l.take k)).put e := by
  rw [List.take_add_one, h]; simp [Bk.puts]
def roomM (n : Int) : Int := min (max n 1) 256
def Bk.new (n : Int) : Bk := ⟨[], roomM n, 0⟩
theorem Bk.new_ok (n : Int) : (Bk.new n).Ok := ⟨by show 1 ≤ min (max n 1) 256 ∧ min (max n 1) 256 ≤ 256; omega, by show (0 : Int) ≤ min (max n 1) 256; omega, by simp [Bk.new]⟩

/-- A book in memory: its block, its row. -/
structure BookAt (w : World) (b : Nat) (v : Value) (B : Bk) : Prop where
  blk : w.heap[b]? = some (.cells #[v, .int .i64 B.room, .int .i64 B.lost] 50)
  row : OwnK 34 3 evC w (b + 1) v B.L
  ok : B.Ok
theorem BookAt.lt {w : World} {b : Nat} {v : Value} {B : Bk} (h : BookAt w b v B) : b < w.heap.size := (Array.getElem?_eq_some_iff.1 h.blk).1
theorem BookAt.below {w w' : World} {b : Nat} {v : Value} {B : Bk} (h : BookAt w b v B) (hb : Below w.heap.size w w') : BookAt w' b v B :=
  ⟨by rw [hb.block _ h.lt]; exact h.blk, h.row.below hb, h.ok⟩
theorem BookAt.opened {w : World} {b : Nat} {v : Value} {B : Bk} (h : BookAt w b v B) : ∃ a cap, v = .slice a B.L.length cap ∧ B.L.length ≤ cap ∧ cap ≤ maxLen ∧ Evs w a B.L ∧ B.L.length ≤ 256 := by
  obtain ⟨a, cap, e, h1, h2, _, h3⟩ := h.row.opened evC_len
  exact ⟨a, cap, e, h1, h2, h3, by have := h.ok.len; have := h.ok.room; omega⟩

set_option maxHeartbeats 1000000 in
theorem bnew_any (n : Int) (w : World) :
    Calls Try.prog 6 #[.int .i64 n] w fun e w' => e = .returned (.pointer (some ⟨w.heap.size, 0, none⟩)) ∧ w' = w.alloc (.cells #[.slice none 0 0, .int .i64 (roomM n), .int .i64 0] 50) := by
  have h1 : Hid (n ≤ 1 → roomM n = 1) := Lib.hid (by unfold roomM; omega)
  have h2 : Hid (256 ≤ n → roomM n = 256) := Lib.hid (by unfold roomM; omega)
  have h3 : Hid (1 ≤ n → n ≤ 256 → roomM n = n) := Lib.hid (by unfold roomM; omega)
  go_enter Try.func6, Try.ntmps6
  go_wp2
  all_goals
    go_ret
    first | (rw [h1.out (by omega)]; exact ⟨rfl, rfl⟩) | (rw [h2.out (by omega)]; exact ⟨rfl, rfl⟩) | (rw [h3.out (by omega) (by omega)]; exact ⟨rfl, rfl⟩)
theorem bookAt_new (n : Int) (w : World) : BookAt (w.alloc (.cells #[.slice none 0 0, .int .i64 (roomM n), .int .i64 0] 50)) w.heap.size (.slice none 0 0) (Bk.new n) :=
  ⟨heap_alloc_here _ _, OwnK.nil _ _, Bk.new_ok n⟩
set_option maxHeartbeats 1000000 in
theorem rbnew_any (n : Int) (w : World) :
    Calls Try.prog 7 #[.int .i64 n] w fun e w' => e = .returned (.pointer (some ⟨w.heap.size, 0, none⟩)) ∧ w' = w.alloc (.cells #[.int .i64 (roomM n), .slice none 0 0, .int .i64 0] 38) := by
  have h : cutM n 1 256 = roomM n := by unfold roomM cutM; split <;> (try split) <;> omega
  go_enter Try.func7, Try.ntmps7
  go_wp2_with (go_at_call 18; refine (cut_any _ _ _ _).mono ?_; rintro e w' ⟨rfl, rfl⟩)
  go_ret
  exact ⟨rfl, by simp [*]⟩
set_option maxHeartbeats 1000000 in
theorem blen_any (b : Nat) (v : Value) (B : Bk) (w : World) (h : BookAt w b v B) :
    Calls Try.prog 14 #[.pointer (some ⟨b, 0, none⟩)] w fun e w' => e = .returned (.int .i64 B.L.length) ∧ w = w' := by
  obtain ⟨a, cap, rfl, h1, h2, h3, h4⟩ := h.opened
  haveI : IsBlk w b _ _ := ⟨h.blk⟩
  have c0 : w.cell? ⟨b, 0, none⟩ = some (.slice a B.L.length cap) := by rw [IsBlk.cell]; rfl
  go_enter Try.func14, Try.ntmps14
  go_wp2
  go_ret
  exact ⟨rfl, rfl⟩
set_option maxHeartbeats 1000000 in
theorem blost_any (b : Nat) (v : Value) (B : Bk) (w : World) (h : BookAt w b v B) :
    Calls Try.prog 15 #[.pointer (some ⟨b, 0, none⟩)] w fun e w' => e = .returned (.int .i64 B.lost) ∧ w = w' := by
  haveI : IsBlk w b _ _ := ⟨h.blk⟩
  have c2 : w.cell? ⟨b, 2, none⟩ = some (.int .i64 B.lost) := by rw [IsBlk.cell]; rfl
  go_enter Try.func15, Try.ntmps15
  go_wp2
  go_ret
  exact ⟨rfl, rfl⟩
def getM (L : List Ev) (i : Int) : Ev := if 0 ≤ i ∧ i < L.length then (L[i.toNat]?).getD (0, 0, 0) else (0, 0, 0)
def inM (L : List Ev) (i : Int) : Bool := decide (0 ≤ i ∧ i < L.length)
def evA (e : Ev) : Value := .agg #[.int .i64 e.1, .int .i64 e.2.1, .int .i64 e.2.2]
set_option maxHeartbeats 1000000 in
theorem bget_any (b : Nat) (v : Value) (B : Bk) (i : Int) (w : World) (h : BookAt w b v B) :
    Calls Try.prog 11 #[.pointer (some ⟨b, 0, none⟩), .int .i64 i] w fun e w' => e = .returned (.tuple #[.agg #[.int .i64 (getM B.L i).1, .int .i64 (getM B.L i).2.1, .int .i64 (getM B.L i).2.2], .bool (inM B.L i)]) ∧ Below w.heap.size w w' := by
  obtain ⟨a, cap, rfl, h1, h2, h3, h4⟩ := h.opened
  haveI : IsBlk w b _ _ := ⟨h.blk⟩
  haveI : LeSize (b + 1) w := ⟨h.lt⟩
  have c0 : w.cell? ⟨b, 0, none⟩ = some (.slice a B.L.length cap) := by rw [IsBlk.cell]; rfl
  by_cases hi : 0 ≤ i
  · obtain ⟨k, rfl⟩ := Int.eq_ofNat_of_zero_le hi
    by_cases hlt : k < B.L.length
    · have g := List.getElem?_eq_getElem hlt
      obtain ⟨b1, o1, rfl, hb1, x1, x2, x3⟩ := h3.at g
      have hg : getM B.L (k : Int) = B.L[k] := by unfold getM; rw [if_pos ⟨hi, by omega⟩]; simp [g]
      rw [hg]
      generalize B.L[k] = x at *
      clear g hg
      have hd : Hid (inM B.L k = true) := Lib.hid (by unfold inM; simp; omega)
      go_enter Try.func11, Try.ntmps11
      go_wp2
      go_returns
      exact ⟨by rw [hd.out], by (repeat' (first | (with_reducible exact Below.refl _ _) | (with_reducible assumption) | (with_reducible refine Below.setCell ?_ ?_ _) | (with_reducible refine Below.alloc ?_ ?_ _) | (with_reducible refine Below.drew ?_) | (with_reducible refine Up.base _ ?_ ?_) | (with_reducible exact LeSize.out) | exact LeSize.out | exact Nat.le_add_right_of_le LeSize.out | exact Nat.le_add_right_of_le (Nat.le_add_right_of_le LeSize.out) | (with_reducible exact Nat.le_refl _) | (simp; done) | (simp; omega)))⟩
    · have hge : B.L.length ≤ k := by omega
      clear hlt
      have hg : getM B.L (k : Int) = (0, 0, 0) := by unfold getM; rw [if_neg (by omega)]
      have hd : Hid (inM B.L k = false) := Lib.hid (by unfold inM; simp; omega)
      rw [hg]
      go_enter Try.func11, Try.ntmps11
      go_wp2
      go_returns
      exact ⟨by rw [hd.out], by (repeat' (first | (with_reducible exact Below.refl _ _) | (with_reducible assumption) | (with_reducible refine Below.setCell ?_ ?_ _) | (with_reducible refine Below.alloc ?_ ?_ _) | (with_reducible refine Below.drew ?_) | (with_reducible refine Up.base _ ?_ ?_) | (with_reducible exact LeSize.out) | exact LeSize.out | exact Nat.le_add_right_of_le LeSize.out | exact Nat.le_add_right_of_le (Nat.le_add_right_of_le LeSize.out) | (with_reducible exact Nat.le_refl _) | (simp; done) | (simp; omega)))⟩
  · have hg : getM B.L i = (0, 0, 0) := by unfold getM; rw [if_neg (by omega)]
    have hd : Hid (inM B.L i = false) := Lib.hid (by unfold inM; simp; omega)
    rw [hg]
    go_enter Try.func11, Try.ntmps11
    go_wp2
    go_returns
    exact ⟨by rw [hd.out], by (repeat' (first | (with_reducible exact Below.refl _ _) | (with_reducible assumption) | (with_reducible refine Below.setCell ?_ ?_ _) | (with_reducible refine Below.alloc ?_ ?_ _) | (with_reducible refine Below.drew ?_) | (with_reducible refine Up.base _ ?_ ?_) | (with_reducible exact LeSize.out) | exact LeSize.out | exact Nat.le_add_right_of_le LeSize.out | exact Nat.le_add_right_of_le (Nat.le_add_right_of_le LeSize.out) | (with_reducible exact Nat.le_refl _) | (simp; done) | (simp; omega)))⟩
end Go.Proofs.Ytpmnhieehkjnmaa
