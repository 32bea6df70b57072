/- Books: events, rows of events, SameEvents. -/
import Derived.Test.YtpmnhieehkjnmaaBld
import Derived.Test.YtpmnhieehkjnmaaEnvF
import Derived.Test.YtpmnhieehkjnmaaRk
namespace Go.Proofs.Ytpmnhieehkjnmaa
open Go.RowKit
set_option linter.unusedVariables false

abbrev Ev := Int × Int × Int
def evC (e : Ev) : List Value := [.int .i64 e.1, .int .i64 e.2.1, .int .i64 e.2.2]
theorem evC_len (e : Ev) : (evC e).length = 3 := rfl
def evV (L : List Ev) (i j : Nat) : Value := ((L[i]?.bind fun x => (evC x)[j]?).getD undef)
/-- A slice of events, read. -/
def Evs (w : World) (a : Option Addr) (L : List Ev) : Prop := RowK w a 3 L.length (evV L)
theorem evV0 {L : List Ev} {i : Nat} {e : Ev} (h : L[i]? = some e) : evV L i 0 = .int .i64 e.1 ∧ evV L i 1 = .int .i64 e.2.1 ∧ evV L i 2 = .int .i64 e.2.2 := by
  simp [evV, h, evC]
theorem Evs.at {w : World} {a : Option Addr} {L : List Ev} (h : Evs w a L) {i : Nat} {e : Ev} (hi : L[i]? = some e) :
    ∃ b off, a = some ⟨b, off, none⟩ ∧ LeSize (b + 1) w ∧ w.cell? ⟨b, off + i * 3, none⟩ = some (.int .i64 e.1) ∧ w.cell? ⟨b, off + i * 3 + 1, none⟩ = some (.int .i64 e.2.1) ∧ w.cell? ⟨b, off + i * 3 + 2, none⟩ = some (.int .i64 e.2.2) := by
  have hlt := (List.getElem?_eq_some_iff.1 hi).1
  rcases h with h | ⟨b, off, ha, hlt', hc⟩
  · omega
  · obtain ⟨e0, e1, e2⟩ := evV0 hi
    exact ⟨b, off, ha, ⟨hlt'⟩, by rw [← e0]; exact hc i hlt 0 (by omega), by rw [← e1]; exact hc i hlt 1 (by omega), by rw [← e2]; exact hc i hlt 2 (by omega)⟩
theorem Evs.below {B : Nat} {w w' : World} {a : Option Addr} {L : List Ev} (h : Evs w a L) (hb : Below B w w') (hB : w.heap.size ≤ B) : Evs w' a L := RowK.below h hb hB
theorem info_ev : (Try.prog.info? 34).map (fun i => (i.zero, i.size, i.bytes)) = some (some (.agg #[.int .i64 0, .int .i64 0, .int .i64 0]), 3, 24) := by kernel_rfl

theorem run_ev_neq (x y : Ev) (w : World) : Sem.run Try.prog (binOp .neq 34 (.agg #[.int .i64 x.1, .int .i64 x.2.1, .int .i64 x.2.2]) (.agg #[.int .i64 y.1, .int .i64 y.2.1, .int .i64 y.2.2])) w = .ok (.bool (x != y)) w := by
  obtain ⟨x0, x1, x2⟩ := x
  obtain ⟨y0, y1, y2⟩ := y
  have e : ((x0, x1, x2) != (y0, y1, y2)) = !(decide (x0 = y0) && (decide (x1 = y1) && decide (x2 = y2))) := by
    by_cases h0 : x0 = y0 <;> by_cases h1 : x1 = y1 <;> by_cases h2 : x2 = y2 <;> simp [h0, h1, h2]
  by_cases h0 : x0 = y0 <;> by_cases h1 : x1 = y1 <;> by_cases h2 : x2 = y2 <;> simp [go_sem, e, h0, h1, h2]
theorem same_snoc {k : Nat} {L M : List Ev} {e f : Ev} (hl : L[k]? = some e) (hm : M[k]? = some f) (h : L.take k = M.take k) : (L.take (k + 1) = M.take (k + 1)) ↔ e = f := by
  rw [List.take_add_one, List.take_add_one, hl, hm, h]; simp
set_option maxHeartbeats 2000000 in
theorem same_any (a1 : Option Addr) (c1 : Nat) (a2 : Option Addr) (c2 : Nat) (L M : List Ev) (w : World) (hL : Evs w a1 L) (hM : Evs w a2 M) (hl : L.length ≤ 1000000000) (hm : M.length ≤ 1000000000) :
    Calls Try.prog 12 #[.slice a1 L.length c1, .slice a2 M.length c2] w fun e w' => e = .returned (.bool (decide (L = M))) ∧ Below w.heap.size w w' := by
  have HR := run_ev_neq
  by_cases hlen : L.length = M.length
  · have e1 : ((L.length : Int) != (M.length : Int)) = false := by simp; omega
    have HL := Lib.hid hL
    have HM := Lib.hid hM
    have HN := Lib.hid hlen
    clear hL hM hlen
    go_enter Try.func12, Try.ntmps12
    go_wp2
    go_loopw [5] (fun p wr => ∃ k : Nat, p = .int .i64 k ∧ k ≤ L.length ∧ L.take k = M.take k ∧ Below w.heap.size w wr) (fun p _ => L.length - (intOf p).toNat)
    case atStart => exact ⟨0, rfl, by omega, by simp, Below.refl _ _⟩
    case round =>
      obtain ⟨k, rfl, hk, ht, hb⟩ := hrel
      by_cases hlt : k < L.length
      · have hlt2 : k < M.length := by have := HN.out; omega
        have g1 : L[k]? = some L[k] := List.getElem?_eq_getElem hlt
        have g2 : M[k]? = some M[k] := List.getElem?_eq_getElem hlt2
        obtain ⟨b1, o1, rfl, hb1, x1, x2, x3⟩ := (HL.out.below hb (Nat.le_refl _)).at g1
        obtain ⟨b2, o2, rfl, hb2, y1, y2, y3⟩ := (HM.out.below hb (Nat.le_refl _)).at g2
        have HT := Lib.hid (same_snoc g1 g2 ht)
        have HS : Hid (L[k] ≠ M[k] → L ≠ M) := Lib.hid fun h e => h (by subst e; rfl)
        generalize L[k] = x at *
        generalize M[k] = y at *
        clear g1 g2 ht
        by_cases hxy : x = y
        · have HT2 := Lib.hid (HT.out.2 hxy)
          clear HT HS
          have e2 : (x != y) = false := by simp [hxy]
          clear hxy
          go_wp2
          (refine wp_region_up (by kernel_rfl) (by kernel_rfl) ?_; (repeat (first | go_big_quiet_step ((first | fail)))); refine wpQuiet_nil ?_; rintro _ ⟨u, rfl⟩)
          go_wp2
          go_roundw
          case rel => exact ⟨k + 1, by go_num, by omega, HT2.out, hb.trans (u.bel.mono (by have := hb.size; omega))⟩
          case measure => simp [intOf]; omega
        · have HT2 := Lib.hid (HS.out hxy)
          clear HT HS
          have e2 : (x != y) = true := by simp [hxy]
          clear hxy
          go_wp2
          (refine wp_region_up (by kernel_rfl) (by kernel_rfl) ?_; (repeat (first | go_big_quiet_step ((first | fail)))); refine wpQuiet_nil ?_; rintro _ ⟨u, rfl⟩)
          go_wp2
          go_returns
          exact ⟨by simp [HT2.out], hb.trans (u.bel.mono (by have := hb.size; omega))⟩
      · have hkL : k = L.length := by omega
        have HE : Hid (L = M) := Lib.hid (by rw [hkL, List.take_length] at ht; rw [ht, HN.out, List.take_length])
        subst hkL
        clear ht
        go_wp2
        go_returns
        exact ⟨by simp [HE.out], hb⟩
  · have e1 : ((L.length : Int) != (M.length : Int)) = true := by simp; omega
    have HN : Hid (L ≠ M) := Lib.hid fun e => hlen (by rw [e])
    clear hlen
    go_enter Try.func12, Try.ntmps12
    go_wp2
    go_returns
    exact ⟨by simp [HN.out], Below.refl _ _⟩
end Go.Proofs.Ytpmnhieehkjnmaa
