/- The contracts of Text: lamp's own, and the reference's. -/
import Derived.Test.YtkfilolomjhdeaaSetW
import Derived.Test.YtkfilolomjhdeaaBlk
import Derived.Laws.IdiomStrings
namespace Go.Proofs.Ytkfilolomjhdeaa
open Go.RowKit
set_option linter.unusedVariables false

def textB (x : Int) : UInt8 := if x = 0 then 45 else if x = 1 then 82 else if x = 2 then 89 else if x = 4 then 71 else if x = 12 then 87 else if x = 20 then 66 else if x = 33 then 114 else if x = 34 then 121 else 63
def textS (L : List Int) : ByteArray := ⟨(L.map textB).toArray⟩
theorem info_byte : (Try.prog.info? 5).map (fun i => (i.zero, i.size, i.bytes)) = some (some (.int .u8 0), 1, 1) := by kernel_rfl
def u8v (b : UInt8) : Value := .int .u8 (b.toNat : Int)
def OwnBytes (w : World) (base : Nat) (v : Value) (bs : List UInt8) : Prop := w.ownsRow base 5 1 v bs.length (bs.map u8v)
theorem OwnBytes.nil (w : World) (base : Nat) : OwnBytes w base (.slice none 0 0) [] := ⟨rfl, .inl ⟨rfl, rfl⟩⟩
theorem OwnBytes.below {w w' : World} {base : Nat} {v : Value} {bs : List UInt8} (h : OwnBytes w base v bs) (hb : Below w.heap.size w w') : OwnBytes w' base v bs := by
  obtain ⟨h1, h⟩ := h
  refine ⟨h1, ?_⟩
  rcases h with h | ⟨g, cap, cur, e, hg, hc, h3, h4, h5, h6⟩
  · exact .inl h
  · exact .inr ⟨g, cap, cur, e, hg, by rw [hb.block _ (Array.getElem?_eq_some_iff.1 hc).1]; exact hc, h3, h4, h5, h6⟩
theorem OwnBytes.alloc {w : World} {base : Nat} {v : Value} {bs : List UInt8} (h : OwnBytes w base v bs) (o : Obj) : OwnBytes (w.alloc o) base v bs := h.below ((Below.refl _ _).alloc (Nat.le_refl _) o)
theorem wpList_app_byte {ops : Array Oper} {rest : List Oper} {o : Oper} {a : Act} {w : World} {Q : Exit → Act → World → Prop} (hgd : o.guard = none) (s x : Operand)
    (ho : o.op = .call { callee := .builtin .append, args := #[s, x], argTypes := #[56, 56] })
    (base : Nat) {v : Value} {bs : List UInt8} (hs : a.eval s = v) (hown : OwnBytes w base v bs)
    {b : Nat} {y : UInt8} (hx : a.eval x = .slice (some ⟨b, 0, none⟩) 1 1) (hc : w.cell? ⟨b, 0, none⟩ = some (u8v y)) (hn : bs.length ≤ 1000000) (hbase : base ≤ w.heap.size)
    (h : ∀ v' w', OwnBytes w' base v' (bs ++ [y]) → w.grownBy w' v.ownBlock → wpList Try.prog ops Q rest (a.put o.dst v') w') : wpList Try.prog ops Q (o :: rest) a w := by
  obtain ⟨i0, hinfo, hz0, hz1, hz2⟩ := info_parts info_byte
  refine wpList_append_own w hgd s x 56 ho base 5 i0 (.int .u8 0) 1 1 Try.underlying56 hinfo hz0 hz1 hz2 rfl (by decide) v bs.length _ hs hown ⟨b, 0, none⟩ 1 1 [u8v y] hx rfl ?_ ?_ ?_ ?_ hbase (fun v' w' h1 h2 _ => h v' w' ?_ h2)
  · intro j u hj; match j, hj with | 0, hj => simp at hj; subst hj; simp [Addr.add]; exact hc
  · simp [Value.oneCell', u8v]
  · unfold maxLen; omega
  · omega
  · unfold OwnBytes; simpa using h1
theorem OwnBytes.grown {B : Nat} {w0 wr w1 : World} {o : Obj} {v : Value} {bs : List UInt8} {base : Nat} (hown : OwnBytes wr base v bs) (hb : Below B w0 wr) (hB : B ≤ wr.heap.size) (hbase : B ≤ base) (hg : (wr.alloc o).grownBy w1 v.ownBlock) : Below B w0 w1 := by
  refine (hb.alloc hB o).grown hg (by simp; omega) (fun k hk => ?_)
  rcases hown.2 with ⟨rfl, _⟩ | ⟨g, cap, cur, rfl, hg, _⟩
  · simp [Value.ownBlock] at hk
  · simp [Value.ownBlock] at hk; omega
/-- The bytes as a string. -/
theorem OwnBytes.text {w : World} {base : Nat} {v : Value} {bs : List UInt8} (h : OwnBytes w base v bs) (h0 : bs ≠ []) : (convert 56 9 v).run Try.prog w = .ok (.string ⟨bs.toArray⟩) w := by
  obtain ⟨hl, h⟩ := h
  rcases h with ⟨_, hz⟩ | ⟨g, cap, cur, rfl, hg, hc, _, _, _, ht⟩
  · exact absurd (List.eq_nil_of_length_eq_zero hz) h0
  · refine run_convert_bytes_back w 56 9 5 ⟨g, 0, none⟩ cap bs Try.underlying56 Try.underlying5 Try.underlying9 (fun j hj => ?_)
    have hx : cur[0 + j]? = some (u8v bs[j]) := by
      have this : (cur.toList.take (bs.length * 1))[j]? = (bs.map u8v)[j]? := by rw [ht]
      rw [List.getElem?_take, if_pos (by omega)] at this
      rw [Nat.zero_add, ← Array.getElem?_toList, this]
      simp [hj]
    have : (⟨g, 0, none⟩ : Addr).add j = ⟨g, 0 + j, none⟩ := Addr.add_mid g 0 j
    rw [this]
    exact laid_cell hc _ hx
theorem take_text {L : List Int} {k : Nat} {x : Int} (hk : k < L.length) (hx : L.getD k 0 = x) : (L.take (k + 1)).map textB = (L.take k).map textB ++ [textB x] := by
  rw [List.take_succ_eq_append_getElem hk, List.map_append]
  have : L[k] = x := by rw [← hx]; simp [List.getD, hk]
  rw [this]; rfl
set_option maxHeartbeats 8000000 in
theorem rtext_any (cs : Array Value) (L : List Int) (w : World) (hL : L.length = 8) (hcs : cs = (L.map (Value.int .i64)).toArray) :
    Calls Try.prog 8 #[.agg cs] w fun e w' => e = .returned (.string (textS L)) ∧ Below w.heap.size w w' := by
  have HC : Hid (∀ k, k < 8 → cs[k]? = some (.int .i64 (L.getD k 0))) := Lib.hid fun k hk => by rw [hcs]; simp [List.getD, show k < L.length by omega]
  have HL := Lib.hid hL
  clear hcs hL
  go_enter Try.func8, Try.ntmps8
  go_wp2
  go_loopw [3, 4] (fun l i wr => ∃ k : Nat, k ≤ 8 ∧ i = .int .i64 k ∧ OwnBytes wr (w.heap.size + 1) l ((L.take k).map textB) ∧ Below (w.heap.size + 1) (w.alloc (.cells cs 23)) wr) (fun _ i _ => 8 - (intOf i).toNat)
  case atStart => exact ⟨0, Nat.zero_le _, rfl, OwnBytes.nil _ _, Below.refl _ _⟩
  case round =>
    obtain ⟨k, hk, rfl, hown, hb⟩ := hrel
    have hB := hb.size
    rw [World.size_alloc] at hB
    have hbx : wr.heap[w.heap.size]? = some (.cells cs 23) := by rw [hb.block _ (by omega)]; exact heap_alloc_here _ _
    have hfl : ((L.take k).map textB).length ≤ 8 := by simp; omega
    by_cases hlt : k < 8
    · have hck : wr.cell? ⟨w.heap.size, k, none⟩ = some (.int .i64 (L.getD k 0)) := laid_cell hbx k (HC.out k hlt)
      obtain ⟨x, hx⟩ : ∃ x, L.getD k 0 = x := ⟨_, rfl⟩
      rw [hx] at hck
      have HT := Lib.hid (take_text (by rw [HL.out]; exact hlt) hx)
      clear hx hbx
      rcases (show x = 0 ∨ x = 1 ∨ x = 2 ∨ x = 4 ∨ x = 12 ∨ x = 20 ∨ x = 33 ∨ x = 34 ∨ (x ≠ 0 ∧ x ≠ 1 ∧ x ≠ 2 ∧ x ≠ 4 ∧ x ≠ 12 ∧ x ≠ 20 ∧ x ≠ 33 ∧ x ≠ 34) by omega) with rfl | rfl | rfl | rfl | rfl | rfl | rfl | rfl | ⟨n0, n1, n2, n4, n12, n20, n33, n34⟩
      · go_wp2_with (at_builtin; refine wpList_app_byte rfl _ _ rfl (w.heap.size + 1) rfl (hown.alloc _) (b := wr.heap.size) (y := 45) rfl (by simp [u8v]) (by omega) (by simp; omega) ?_; intro v' w1 hown' hg)
        go_roundw
        case rel => exact ⟨k + 1, by omega, by go_num, by rw [HT.out]; exact hown', hown.grown hb hB (Nat.le_refl _) hg⟩
        case measure => simp [intOf]; omega
      · go_wp2_with (at_builtin; refine wpList_app_byte rfl _ _ rfl (w.heap.size + 1) rfl (hown.alloc _) (b := wr.heap.size) (y := 82) rfl (by simp [u8v]) (by omega) (by simp; omega) ?_; intro v' w1 hown' hg)
        go_roundw
        case rel => exact ⟨k + 1, by omega, by go_num, by rw [HT.out]; exact hown', hown.grown hb hB (Nat.le_refl _) hg⟩
        case measure => simp [intOf]; omega
      · go_wp2_with (at_builtin; refine wpList_app_byte rfl _ _ rfl (w.heap.size + 1) rfl (hown.alloc _) (b := wr.heap.size) (y := 89) rfl (by simp [u8v]) (by omega) (by simp; omega) ?_; intro v' w1 hown' hg)
        go_roundw
        case rel => exact ⟨k + 1, by omega, by go_num, by rw [HT.out]; exact hown', hown.grown hb hB (Nat.le_refl _) hg⟩
        case measure => simp [intOf]; omega
      · go_wp2_with (at_builtin; refine wpList_app_byte rfl _ _ rfl (w.heap.size + 1) rfl (hown.alloc _) (b := wr.heap.size) (y := 71) rfl (by simp [u8v]) (by omega) (by simp; omega) ?_; intro v' w1 hown' hg)
        go_roundw
        case rel => exact ⟨k + 1, by omega, by go_num, by rw [HT.out]; exact hown', hown.grown hb hB (Nat.le_refl _) hg⟩
        case measure => simp [intOf]; omega
      · go_wp2_with (at_builtin; refine wpList_app_byte rfl _ _ rfl (w.heap.size + 1) rfl (hown.alloc _) (b := wr.heap.size) (y := 87) rfl (by simp [u8v]) (by omega) (by simp; omega) ?_; intro v' w1 hown' hg)
        go_roundw
        case rel => exact ⟨k + 1, by omega, by go_num, by rw [HT.out]; exact hown', hown.grown hb hB (Nat.le_refl _) hg⟩
        case measure => simp [intOf]; omega
      · go_wp2_with (at_builtin; refine wpList_app_byte rfl _ _ rfl (w.heap.size + 1) rfl (hown.alloc _) (b := wr.heap.size) (y := 66) rfl (by simp [u8v]) (by omega) (by simp; omega) ?_; intro v' w1 hown' hg)
        go_roundw
        case rel => exact ⟨k + 1, by omega, by go_num, by rw [HT.out]; exact hown', hown.grown hb hB (Nat.le_refl _) hg⟩
        case measure => simp [intOf]; omega
      · go_wp2_with (at_builtin; refine wpList_app_byte rfl _ _ rfl (w.heap.size + 1) rfl (hown.alloc _) (b := wr.heap.size) (y := 114) rfl (by simp [u8v]) (by omega) (by simp; omega) ?_; intro v' w1 hown' hg)
        go_roundw
        case rel => exact ⟨k + 1, by omega, by go_num, by rw [HT.out]; exact hown', hown.grown hb hB (Nat.le_refl _) hg⟩
        case measure => simp [intOf]; omega
      · go_wp2_with (at_builtin; refine wpList_app_byte rfl _ _ rfl (w.heap.size + 1) rfl (hown.alloc _) (b := wr.heap.size) (y := 121) rfl (by simp [u8v]) (by omega) (by simp; omega) ?_; intro v' w1 hown' hg)
        go_roundw
        case rel => exact ⟨k + 1, by omega, by go_num, by rw [HT.out]; exact hown', hown.grown hb hB (Nat.le_refl _) hg⟩
        case measure => simp [intOf]; omega
      · have HX : Hid (textB x = 63) := Lib.hid (by simp [textB, *])
        have b0 : (x == 0) = false := beq_eq_false_iff_ne.2 n0
        have b1 : (x == 1) = false := beq_eq_false_iff_ne.2 n1
        have b2 : (x == 2) = false := beq_eq_false_iff_ne.2 n2
        have b4 : (x == 4) = false := beq_eq_false_iff_ne.2 n4
        have b12 : (x == 12) = false := beq_eq_false_iff_ne.2 n12
        have b20 : (x == 20) = false := beq_eq_false_iff_ne.2 n20
        have b33 : (x == 33) = false := beq_eq_false_iff_ne.2 n33
        have b34 : (x == 34) = false := beq_eq_false_iff_ne.2 n34
        clear n0 n1 n2 n4 n12 n20 n33 n34
        go_wp2_with (at_builtin; refine wpList_app_byte rfl _ _ rfl (w.heap.size + 1) rfl (hown.alloc _) (b := wr.heap.size) (y := 63) rfl (by simp [u8v]) (by omega) (by simp; omega) ?_; intro v' w1 hown' hg)
        go_roundw
        case rel => exact ⟨k + 1, by omega, by go_num, by rw [HT.out, HX.out]; exact hown', hown.grown hb hB (Nat.le_refl _) hg⟩
        case measure => simp [intOf]; omega
    · obtain rfl : k = 8 := by omega
      have hlen8 : (L.take 8) = L := List.take_of_length_le (by rw [HL.out]; exact Nat.le_refl _)
      rw [hlen8] at hown
      have hne : L.map textB ≠ [] := fun h => by have := HL.out; have h2 := congrArg List.length h; simp at h2; rw [h2] at this; cases this
      have hconv := hown.text hne
      clear hne hlen8 hbx
      go_wp2
      go_ret
      exact ⟨rfl, by have hb0 := (Below.refl w.heap.size w).alloc (Nat.le_refl _) (.cells cs 23); exact hb0.trans (hb.mono (by omega))⟩
end Go.Proofs.Ytkfilolomjhdeaa
