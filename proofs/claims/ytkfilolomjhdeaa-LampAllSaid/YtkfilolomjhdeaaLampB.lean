/- The contract of lamp's Text: a map from lamps to letters. -/
import Derived.Test.YtkfilolomjhdeaaLampA
import Derived.MapKept
import Derived.WideMake
import Derived.Maps.OwnOps
namespace Go.Proofs.Ytkfilolomjhdeaa
open Go.RowKit
set_option linter.unusedVariables false

section
variable {P : Program} {ops : Array Oper} {op : Oper} {rest : List Oper} {a : Act} {w : World} {Q : Exit → Act → World → Prop}
theorem alloc_set (w : World) (o o' : Obj) : ({ w.alloc o with heap := (w.alloc o).heap.setIfInBounds w.heap.size o' } : World) = w.alloc o' := by
  have e : w.alloc o = { w with heap := w.heap.push o } := rfl
  have e' : w.alloc o' = { w with heap := w.heap.push o' } := rfl
  have h : (w.heap.push o).setIfInBounds w.heap.size o' = w.heap.push o' := by
    apply Array.ext_getElem?
    intro i
    rw [Array.getElem?_setIfInBounds, Array.getElem?_push, Array.getElem?_push]
    by_cases h : w.heap.size = i
    · subst h; simp
    · simp [h, Ne.symm h]
  rw [e']
  show ({ w with heap := (w.heap.push o).setIfInBounds w.heap.size o' } : World) = { w with heap := w.heap.push o' }
  rw [h]
def lookV (z : Value) : Option (Nat × Value) → Value
  | some (_, v) => v
  | none => z
attribute [go_sem] lookV
/-- A store of a new key into the map that was made last. -/
theorem run_insert_last (w : World) {T K E : TypeId} (hu : P.underlying T = some (.map K E)) (hk : P.underlying K = some (.int .i64)) (es : Array MapEntry) (clock : Nat) (k : Int) (v : Value)
    (hf : Instr.findNow (.int .i64) (.int .i64 k) es.toList 0 = some none) :
    (Instr.mapUpdate T (.map (some w.heap.size)) (.int .i64 k) v).run P (w.alloc (.map es clock)) = .ok () (w.alloc (.map (es.push { key := .int .i64 k, val := v, born := clock }) (clock + 1))) := by
  have hb : (w.alloc (.map es clock)).heap[w.heap.size]? = some (.map es clock) := heap_alloc_here _ _
  have hc : (Instr.checkKey false 10000 K (.int .i64 k)).run P (w.alloc (.map es clock)) = .ok () (w.alloc (.map es clock)) := MapKept.run_checkKey hk (by simp [MapKept.IsKey]) false 9999
  simp only [Instr.mapUpdate, Sem.run_bind, run_underlying hu, MapKept.run_getObj_map hb, hc, MapKept.run_findKey hk hf, MapKept.run_setObj_map _ hb, Result.andThen]
  rw [alloc_set]
theorem wpList_insert_last {T K E : TypeId} {m x y : Operand} {w : World} {r : Nat} {es : Array MapEntry} {clock : Nat} {k : Int} {v : Value} (hgd : op.guard = none) (ho : op.op = .insert T m x y) (hu : P.underlying T = some (.map K E)) (hk : P.underlying K = some (.int .i64))
    (hm : a.eval m = .map (some r)) (hr : r = w.heap.size) (hx : a.eval x = .int .i64 k) (hy : a.eval y = v) (hf : Instr.findNow (.int .i64) (.int .i64 k) es.toList 0 = some none)
    (h : wpList P ops Q rest (a.put op.dst undef) (w.alloc (.map (es.push { key := .int .i64 k, val := v, born := clock }) (clock + 1)))) : wpList P ops Q (op :: rest) a (w.alloc (.map es clock)) := by
  subst hr
  refine wpList_plain hgd fun K' hK' => ?_
  have hrun := run_insert_last (P := P) w hu hk es clock k v hf
  unfold Oper.wp
  simp [execOp, ho, hm, hx, hy, hrun, Result.andThen]
  exact hK' _ _ h
theorem wpList_lookup_at {T K E : TypeId} {x y : Operand} {r : Nat} {es : Array MapEntry} {clock : Nat} {k : Int} {z : Value} (res : Option (Nat × Value)) (hgd : op.guard = none) (ho : op.op = .lookup T x y true) (hu : P.underlying T = some (.map K E)) (hk : P.underlying K = some (.int .i64))
    (hx : a.eval x = .map (some r)) (hy : a.eval y = .int .i64 k) (hb : w.heap[r]? = some (.map es clock)) (hz : (zeroValue E).run P w = .ok z w) (hf : Instr.findNow (.int .i64) (.int .i64 k) es.toList 0 = some res)
    (h : wpList P ops Q rest (a.put op.dst (.tuple #[lookV z res, .bool res.isSome])) w) : wpList P ops Q (op :: rest) a w := by
  refine wpList_plain hgd fun K' hK' => ?_
  have hc : (Instr.checkKey es.isEmpty 10000 K (.int .i64 k)).run P w = .ok () w := MapKept.run_checkKey hk (by simp [MapKept.IsKey]) es.isEmpty 9999
  have hrun : (Instr.lookup T (.map (some r)) (.int .i64 k) true).run P w = .ok (.tuple #[lookV z res, .bool res.isSome]) w := by
    cases res with
    | none => simp [Instr.lookup, Sem.run_bind, run_underlying hu, MapKept.run_getObj_map hb, hc, MapKept.run_findKey hk hf, Result.andThen, hz, lookV]
    | some p => simp [Instr.lookup, Sem.run_bind, run_underlying hu, MapKept.run_getObj_map hb, hc, MapKept.run_findKey hk hf, Result.andThen, lookV]
  unfold Oper.wp
  simp [execOp, ho, hx, hy, hrun, Result.andThen]
  exact hK' _ _ h
end
theorem run_index_int {cs : Array Value} {k : Nat} {x : Int} (hk : k < 8) (hx : cs[k]? = some (.int .i64 x)) (w : World) : Sem.run Try.prog (Instr.index 23 (.agg cs) (.int .i64 (k : Int))) w = .ok (.int .i64 x) w := by
  have h1 : (0 : Int) ≤ k ∧ (k : Int) < 8 := by omega
  have h8 : k < 8 := hk
  simp [Instr.index, asIntOf, Sem.run_bind, run_underlying Try.underlying23, part, isAgg, run_underlying Try.underlying3, Result.andThen, hx, h1, h8]
def letters : Array MapEntry := #[{ key := .int .i64 0, val := .int .u8 45, born := 0 }, { key := .int .i64 1, val := .int .u8 82, born := 1 }, { key := .int .i64 2, val := .int .u8 89, born := 2 }, { key := .int .i64 4, val := .int .u8 71, born := 3 }, { key := .int .i64 12, val := .int .u8 87, born := 4 }, { key := .int .i64 20, val := .int .u8 66, born := 5 }, { key := .int .i64 33, val := .int .u8 114, born := 6 }, { key := .int .i64 34, val := .int .u8 121, born := 7 }]
set_option maxHeartbeats 8000000 in
theorem text_any (cs : Array Value) (L : List Int) (w : World) (hL : L.length = 8) (hcs : cs = (L.map (Value.int .i64)).toArray) :
    Calls Try.prog 7 #[.agg cs] w fun e w' => e = .returned (.string (textS L)) ∧ Below w.heap.size w w' := by
  have HC : Hid (∀ k, k < 8 → cs[k]? = some (.int .i64 (L.getD k 0))) := Lib.hid fun k hk => by rw [hcs]; simp [List.getD, show k < L.length by omega]
  have HS : Hid (cs.size = 8) := Lib.hid (by rw [hcs]; simp [hL])
  have HL := Lib.hid hL
  clear hcs hL
  have hmm := @run_makeMap Try.prog
  go_enter Try.func7, Try.ntmps7
  go_wp2_with (first
    | (refine wpList_insert_last rfl rfl Try.underlying55 Try.underlying3 rfl (by simp) rfl rfl rfl ?_; go_simp)
    | (refine wpList_load_whole 23 _ rfl rfl rfl Try.underlying23 rfl (by rw [HS.out]; kernel_rfl) ?_; go_simp))
  go_loopw [4, 12] (fun l i wr => ∃ k : Nat, k ≤ 8 ∧ i = .int .i64 k ∧ OwnBytes wr (w.heap.size + 1 + 1) l ((L.take k).map textB) ∧ Below (w.heap.size + 1 + 1) ((w.alloc (.cells cs 23)).alloc (.map letters 8)) wr) (fun _ i _ => 8 - (intOf i).toNat)
  case atStart => exact ⟨0, Nat.zero_le _, rfl, OwnBytes.nil _ _, Below.refl _ _⟩
  case round =>
    obtain ⟨k, hk, rfl, hown, hb⟩ := hrel
    have hB := hb.size
    rw [World.size_alloc, World.size_alloc] at hB
    have hmap : wr.heap[w.heap.size + 1]? = some (.map letters 8) := by rw [hb.block _ (by omega)]; have := heap_alloc_here (w.alloc (.cells cs 23)) (.map letters 8); rwa [World.size_alloc] at this
    have hfl : ((L.take k).map textB).length ≤ 8 := by simp; omega
    by_cases hlt : k < 8
    · have hck : cs[k]? = some (.int .i64 (L.getD k 0)) := HC.out k hlt
      obtain ⟨x, hx⟩ : ∃ x, L.getD k 0 = x := ⟨_, rfl⟩
      rw [hx] at hck
      have HT := Lib.hid (take_text (by rw [HL.out]; exact hlt) hx)
      clear hx
      have hidx := run_index_int hlt hck
      clear hck
      rcases (show x = 0 ∨ x = 1 ∨ x = 2 ∨ x = 4 ∨ x = 12 ∨ x = 20 ∨ x = 33 ∨ x = 34 ∨ (x ≠ 0 ∧ x ≠ 1 ∧ x ≠ 2 ∧ x ≠ 4 ∧ x ≠ 12 ∧ x ≠ 20 ∧ x ≠ 33 ∧ x ≠ 34) by omega) with rfl | rfl | rfl | rfl | rfl | rfl | rfl | rfl | ⟨n0, n1, n2, n4, n12, n20, n33, n34⟩
      · go_wp2_with (first | (refine wpList_lookup_at (some (0, .int .u8 45)) rfl rfl Try.underlying55 Try.underlying3 rfl rfl hmap (Try.zeroValue5 _) rfl ?_; go_simp) | (at_builtin; refine wpList_app_byte rfl _ _ rfl (w.heap.size + 1 + 1) rfl (hown.alloc _) (b := wr.heap.size) (y := 45) rfl (by simp [u8v]) (by omega) (by simp; omega) ?_; intro v' w1 hown' hg))
        go_roundw
        case rel => exact ⟨k + 1, by omega, by go_num, by rw [HT.out]; exact hown', hown.grown hb (by omega) (Nat.le_refl _) hg⟩
        case measure => simp [intOf]; omega
      · go_wp2_with (first | (refine wpList_lookup_at (some (1, .int .u8 82)) rfl rfl Try.underlying55 Try.underlying3 rfl rfl hmap (Try.zeroValue5 _) rfl ?_; go_simp) | (at_builtin; refine wpList_app_byte rfl _ _ rfl (w.heap.size + 1 + 1) rfl (hown.alloc _) (b := wr.heap.size) (y := 82) rfl (by simp [u8v]) (by omega) (by simp; omega) ?_; intro v' w1 hown' hg))
        go_roundw
        case rel => exact ⟨k + 1, by omega, by go_num, by rw [HT.out]; exact hown', hown.grown hb (by omega) (Nat.le_refl _) hg⟩
        case measure => simp [intOf]; omega
      · go_wp2_with (first | (refine wpList_lookup_at (some (2, .int .u8 89)) rfl rfl Try.underlying55 Try.underlying3 rfl rfl hmap (Try.zeroValue5 _) rfl ?_; go_simp) | (at_builtin; refine wpList_app_byte rfl _ _ rfl (w.heap.size + 1 + 1) rfl (hown.alloc _) (b := wr.heap.size) (y := 89) rfl (by simp [u8v]) (by omega) (by simp; omega) ?_; intro v' w1 hown' hg))
        go_roundw
        case rel => exact ⟨k + 1, by omega, by go_num, by rw [HT.out]; exact hown', hown.grown hb (by omega) (Nat.le_refl _) hg⟩
        case measure => simp [intOf]; omega
      · go_wp2_with (first | (refine wpList_lookup_at (some (3, .int .u8 71)) rfl rfl Try.underlying55 Try.underlying3 rfl rfl hmap (Try.zeroValue5 _) rfl ?_; go_simp) | (at_builtin; refine wpList_app_byte rfl _ _ rfl (w.heap.size + 1 + 1) rfl (hown.alloc _) (b := wr.heap.size) (y := 71) rfl (by simp [u8v]) (by omega) (by simp; omega) ?_; intro v' w1 hown' hg))
        go_roundw
        case rel => exact ⟨k + 1, by omega, by go_num, by rw [HT.out]; exact hown', hown.grown hb (by omega) (Nat.le_refl _) hg⟩
        case measure => simp [intOf]; omega
      · go_wp2_with (first | (refine wpList_lookup_at (some (4, .int .u8 87)) rfl rfl Try.underlying55 Try.underlying3 rfl rfl hmap (Try.zeroValue5 _) rfl ?_; go_simp) | (at_builtin; refine wpList_app_byte rfl _ _ rfl (w.heap.size + 1 + 1) rfl (hown.alloc _) (b := wr.heap.size) (y := 87) rfl (by simp [u8v]) (by omega) (by simp; omega) ?_; intro v' w1 hown' hg))
        go_roundw
        case rel => exact ⟨k + 1, by omega, by go_num, by rw [HT.out]; exact hown', hown.grown hb (by omega) (Nat.le_refl _) hg⟩
        case measure => simp [intOf]; omega
      · go_wp2_with (first | (refine wpList_lookup_at (some (5, .int .u8 66)) rfl rfl Try.underlying55 Try.underlying3 rfl rfl hmap (Try.zeroValue5 _) rfl ?_; go_simp) | (at_builtin; refine wpList_app_byte rfl _ _ rfl (w.heap.size + 1 + 1) rfl (hown.alloc _) (b := wr.heap.size) (y := 66) rfl (by simp [u8v]) (by omega) (by simp; omega) ?_; intro v' w1 hown' hg))
        go_roundw
        case rel => exact ⟨k + 1, by omega, by go_num, by rw [HT.out]; exact hown', hown.grown hb (by omega) (Nat.le_refl _) hg⟩
        case measure => simp [intOf]; omega
      · go_wp2_with (first | (refine wpList_lookup_at (some (6, .int .u8 114)) rfl rfl Try.underlying55 Try.underlying3 rfl rfl hmap (Try.zeroValue5 _) rfl ?_; go_simp) | (at_builtin; refine wpList_app_byte rfl _ _ rfl (w.heap.size + 1 + 1) rfl (hown.alloc _) (b := wr.heap.size) (y := 114) rfl (by simp [u8v]) (by omega) (by simp; omega) ?_; intro v' w1 hown' hg))
        go_roundw
        case rel => exact ⟨k + 1, by omega, by go_num, by rw [HT.out]; exact hown', hown.grown hb (by omega) (Nat.le_refl _) hg⟩
        case measure => simp [intOf]; omega
      · go_wp2_with (first | (refine wpList_lookup_at (some (7, .int .u8 121)) rfl rfl Try.underlying55 Try.underlying3 rfl rfl hmap (Try.zeroValue5 _) rfl ?_; go_simp) | (at_builtin; refine wpList_app_byte rfl _ _ rfl (w.heap.size + 1 + 1) rfl (hown.alloc _) (b := wr.heap.size) (y := 121) rfl (by simp [u8v]) (by omega) (by simp; omega) ?_; intro v' w1 hown' hg))
        go_roundw
        case rel => exact ⟨k + 1, by omega, by go_num, by rw [HT.out]; exact hown', hown.grown hb (by omega) (Nat.le_refl _) hg⟩
        case measure => simp [intOf]; omega
      · have HX : Hid (textB x = 63) := Lib.hid (by simp [textB, *])
        have b0 : (x == 0) = false := beq_eq_false_iff_ne.2 n0
        have b1 : (x == 1) = false := beq_eq_false_iff_ne.2 n1
        have b2 : (x == 2) = false := beq_eq_false_iff_ne.2 n2
        have b4 : (x == 4) = false := beq_eq_false_iff_ne.2 n4
        have b12 : (x == 12) = false := beq_eq_false_iff_ne.2 n12
        have b20 : (x == 20) = false := beq_eq_false_iff_ne.2 n20
        have b33 : (x == 33) = false := beq_eq_false_iff_ne.2 n33
        have b34 : (x == 34) = false := beq_eq_false_iff_ne.2 n34
        have HF : Hid (Instr.findNow (.int .i64) (.int .i64 x) letters.toList 0 = some none) := Lib.hid (by simp [Instr.findNow, Instr.sameNow, letters, b0, b1, b2, b4, b12, b20, b33, b34])
        clear n0 n1 n2 n4 n12 n20 n33 n34
        go_wp2_with (first | (refine wpList_lookup_at (none) rfl rfl Try.underlying55 Try.underlying3 rfl rfl hmap (Try.zeroValue5 _) HF.out ?_; go_simp) | (at_builtin; refine wpList_app_byte rfl _ _ rfl (w.heap.size + 1 + 1) rfl (hown.alloc _) (b := wr.heap.size) (y := 63) rfl (by simp [u8v]) (by omega) (by simp; omega) ?_; intro v' w1 hown' hg))
        go_roundw
        case rel => exact ⟨k + 1, by omega, by go_num, by rw [HT.out, HX.out]; exact hown', hown.grown hb (by omega) (Nat.le_refl _) hg⟩
        case measure => simp [intOf]; omega
    · obtain rfl : k = 8 := by omega
      have hlen8 : (L.take 8) = L := List.take_of_length_le (by rw [HL.out]; exact Nat.le_refl _)
      rw [hlen8] at hown
      have hne : L.map textB ≠ [] := fun h => by have := HL.out; have h2 := congrArg List.length h; simp at h2; rw [h2] at this; cases this
      have hconv := hown.text hne
      clear hne hlen8 hmap
      go_wp2
      go_ret
      exact ⟨rfl, by have hb0 := ((Below.refl w.heap.size w).alloc (Nat.le_refl _) (.cells cs 23)).alloc (by simp) (.map letters 8); exact hb0.trans (hb.mono (by omega))⟩
end Go.Proofs.Ytkfilolomjhdeaa
