/- The law BookLeft. -/
import Derived.Test.YtpmnhieehkjnmaaBkH
import Derived.Test.YtpmnhieehkjnmaaBkF
import Derived.Test.YtpmnhieehkjnmaaQrIn
namespace Go.Proofs.Ytpmnhieehkjnmaa
open Go.ChangeShapes Go.WideShapes Go.ChangeAt Go.RowKit Go.Shelf
set_option linter.unusedVariables false
attribute [local go_sem] Oper.semAt_some IsBlk.cell IsBlk.frozen

theorem func_nilL (a : Addr) (w : World) : Sem.run Try.prog (binOp BinOp.eql 46 (Value.func (Fn.func 19) #[] #[Value.pointer (some a)]) Value.nilFunc) w = .ok (.bool false) w := by
  rfl
theorem bookLeft_short (n : Int) (a0 : Option Addr) (cap0 : Nat) (L : List Ev) (at0 m0 m1 m2 : Int) (w : World) (h : L.length = 0 ∨ 60 < L.length) :
    Calls Try.prog 5 #[.int .i64 n, .slice a0 L.length cap0, .int .i64 at0, .agg #[.int .i64 m0, .int .i64 m1, .int .i64 m2]] w fun e w' => e = .returned (.bool true) ∧ Below w.heap.size w w' := by
  generalize L.length = l at *
  rcases h with rfl | h
  · go_enter Try.func5, Try.ntmps5
    go_wp2_with (first
    | (go_at_call 6; refine (bnew_any _ _).mono ?_; rintro e w' ⟨rfl, rfl⟩)
    | (go_at_call 8; refine (Up.run (awakeB_any _)).mono ?_; rintro e w' ⟨rfl, u, rfl⟩))
    go_returns
    exact ⟨rfl, by (repeat' (first | (with_reducible exact Below.refl _ _) | (with_reducible assumption) | (with_reducible refine Below.setCell ?_ ?_ _) | (with_reducible refine Below.alloc ?_ ?_ _) | (with_reducible refine Below.drew ?_) | (with_reducible refine Up.base _ ?_ ?_) | (with_reducible exact LeSize.out) | exact LeSize.out | exact Nat.le_add_right_of_le LeSize.out | exact Nat.le_add_right_of_le (Nat.le_add_right_of_le LeSize.out) | (with_reducible exact Nat.le_refl _) | (simp; done) | (simp; omega)))⟩
  · have e1 : ((l : Int) == 0) = false := by simp; omega
    go_enter Try.func5, Try.ntmps5
    go_wp2_with (first
    | (go_at_call 6; refine (bnew_any _ _).mono ?_; rintro e w' ⟨rfl, rfl⟩)
    | (go_at_call 8; refine (Up.run (awakeB_any _)).mono ?_; rintro e w' ⟨rfl, u, rfl⟩))
    go_returns
    exact ⟨rfl, by (repeat' (first | (with_reducible exact Below.refl _ _) | (with_reducible assumption) | (with_reducible refine Below.setCell ?_ ?_ _) | (with_reducible refine Below.alloc ?_ ?_ _) | (with_reducible refine Below.drew ?_) | (with_reducible refine Up.base _ ?_ ?_) | (with_reducible exact LeSize.out) | exact LeSize.out | exact Nat.le_add_right_of_le LeSize.out | exact Nat.le_add_right_of_le (Nat.le_add_right_of_le LeSize.out) | (with_reducible exact Nat.le_refl _) | (simp; done) | (simp; omega)))⟩
theorem ret_of_belowB {b : Nat} {X W : World} (h : Below b X W) {k i : Nat} (hk : k < b) {v : Value} (hc : X.cell? ⟨k, i, none⟩ = some v) : W.cell? ⟨k, i, none⟩ = some v := by
  rw [h.cell (p := ⟨k, i, none⟩) hk]; exact hc
theorem ownFrom_imp2 {β : Type} {B : Nat} {p : β → Prop} {I : β → World → Prop} (h : OwnFrom B I) : OwnFrom B (fun s W => p s → I s W) :=
  fun s A C row hs hg hr hp => h s A C row (hs hp) hg hr
theorem prefix_atE {l pre : List Ev} {x : Ev} (hp : pre <+: l) (hn : pre.length < l.length) (hx : l[pre.length]? = some x) : pre ++ [x] <+: l := by
  obtain ⟨t, rfl⟩ := hp
  cases t with
  | nil => simp at hn
  | cons y t => simp at hx; subst hx; exact ⟨t, by simp⟩
theorem prefix_lastE {l pre : List Ev} {x : Ev} (hp : pre ++ [x] <+: l) : l[pre.length]? = some x := by
  obtain ⟨t, rfl⟩ := hp
  simp
/-- All but the book, its row and one block more lies as it lay. -/
structure LeftB (b j : Nat) (v : Value) (Y W : World) : Prop where
  os : W.os = Y.os
  tape : W.tape = Y.tape
  output : W.output = Y.output
  size : Y.heap.size ≤ W.heap.size
  block : ∀ k, k < Y.heap.size → k ≠ b → k ≠ j → v.ownBlock ≠ some k → W.heap[k]? = Y.heap[k]?
theorem LeftB.refl (b j : Nat) (v : Value) (Y : World) : LeftB b j v Y Y := ⟨rfl, rfl, rfl, Nat.le_refl _, fun _ _ _ _ _ => rfl⟩
theorem LeftB.below {b j : Nat} {v : Value} {Y W W' : World} (h : LeftB b j v Y W) (hb : Below W.heap.size W W') : LeftB b j v Y W' :=
  ⟨hb.os.trans h.os, hb.tape.trans h.tape, hb.output.trans h.output, Nat.le_trans h.size hb.size, fun k hk h1 h2 h3 => (hb.block k (Nat.lt_of_lt_of_le hk h.size)).trans (h.block k hk h1 h2 h3)⟩
theorem LeftB.set {b j : Nat} {v : Value} {Y W : World} (h : LeftB b j v Y W) (i : Nat) (x : Value) : LeftB b j v Y (W.setCell ⟨j, i, none⟩ x) :=
  ⟨h.os, h.tape, h.output, by have := h.size; simpa [World.setCell] using this, fun k hk h1 h2 h3 => (Below.heap_setCell _ _ _ _ h2).trans (h.block k hk h1 h2 h3)⟩
theorem LeftB.moved {b j : Nat} {v v' : Value} {Y W W' : World} {n n' : Nat} (h : LeftB b j v Y W) (hm : Moved W W' b v v' n n') : LeftB b j v Y W' :=
  ⟨hm.os.trans h.os, hm.tape.trans h.tape, hm.output.trans h.output, Nat.le_trans h.size hm.size, fun k hk h1 h2 h3 => (hm.block k (Nat.lt_of_lt_of_le hk h.size) h1 h3).trans (h.block k hk h1 h2 h3)⟩
theorem LeftB.from {β : Type} {b j : Nat} {v : Value} {Y : World} : OwnFrom Y.heap.size (fun (_ : β) W => LeftB b j v Y W) :=
  fun s A C row hs hg hr => ⟨hg.os.trans hs.os, hg.tape.trans hs.tape, hg.output.trans hs.output, Nat.le_trans hs.size hg.size, fun k hk h1 h2 h3 => (hg.block k (Nat.lt_of_lt_of_le hk hs.size) (fun e => by have := (hr k e.symm).1; omega)).trans (hs.block k hk h1 h2 h3)⟩
theorem LeftB.bel {b j B : Nat} {v : Value} {Y W : World} (h : LeftB b j v Y W) (h0 : B ≤ Y.heap.size) (h1 : B ≤ b) (h2 : B ≤ j) (h3 : ∀ k, v.ownBlock = some k → B ≤ k) : Below B Y W :=
  ⟨h.os, h.tape, h.output, h.size, fun k hk => h.block k (by omega) (by omega) (by omega) (fun e => by have := h3 k e; omega)⟩
theorem LeftB.cell {b j : Nat} {v : Value} {Y W : World} (h : LeftB b j v Y W) {k i : Nat} (hk : k < Y.heap.size) (h1 : k ≠ b) (h2 : k ≠ j) (h3 : v.ownBlock ≠ some k) {x : Value} (hc : Y.cell? ⟨k, i, none⟩ = some x) : W.cell? ⟨k, i, none⟩ = some x := by
  rw [World.cell?_of_block (a := ⟨k, i, none⟩) (h.block k hk h1 h2 h3)]; exact hc
theorem lall_pos (b : Nat) (v0 : Value) (B : Bk) (w : World) (h : BookAt w b v0 B) (h1 : 1 ≤ B.L.length) : Calls Try.prog 13 #[.pointer (some ⟨b, 0, none⟩)] w fun e w' => ∃ g cap', ∃ u : Up w, e = .returned (.slice (some ⟨g, 0, none⟩) B.L.length cap') ∧ w' = u.w ∧ w.heap.size ≤ g ∧ g < u.w.heap.size ∧ Evs u.w (some ⟨g, 0, none⟩) B.L := by
  refine (lall_any b v0 B w h).mono ?_
  rintro e w' ⟨v', rfl, hown, hbel⟩
  obtain ⟨a', cap', rfl, _, _, _, hr⟩ := hown.opened evC_len
  rcases hown.2 with ⟨e, h0⟩ | ⟨g, cap, cur, e, hg, hc, _⟩
  · omega
  · simp at e
    obtain ⟨rfl, rfl⟩ := e
    exact ⟨g, cap', ⟨w', hbel⟩, rfl, rfl, hg, (Array.getElem?_eq_some_iff.1 hc).1, hr⟩
set_option maxRecDepth 100000 in
set_option maxHeartbeats 8000000 in
theorem bookLeft_main (n : Int) (a0 : Option Addr) (cap0 : Nat) (L : List Ev) (at0 m0 m1 m2 : Int) (w : World) (hl0 : L.length ≠ 0) (hl : L.length ≤ 60) (hab : ∀ ad, a0 = some ad → ad.block < w.heap.size) (hE : Evs w a0 L) (B1 : Bk) (hB1 : (Bk.new n).puts L = B1) (hlen : 1 ≤ B1.L.length ∧ B1.L.length ≤ 60) (hlo : B1.lost ≤ 1000) :
    Calls Try.prog 5 #[.int .i64 n, .slice a0 L.length cap0, .int .i64 at0, .agg #[.int .i64 m0, .int .i64 m1, .int .i64 m2]] w fun e w' => e = .returned (.bool true) ∧ Below w.heap.size w w' := by
  have e1 : ((L.length : Int) == 0) = false := beq_eq_false_iff_ne.2 (by omega)
  have e2 : decide ((60 : Int) < (L.length : Int)) = false := decide_eq_false (by omega)
  have e2' : ¬ (60 : Int) < (L.length : Int) := by omega
  have hfn := func_nilL
  refine (callsIn_wide (n := 6)).1 ?_
  refine callsIn_of_wp_marks Try.func5 rfl trivial ?_ rfl
  simp only [Try.ntmps5, List.size_toArray, List.length_cons, List.length_nil, Nat.reduceAdd, Nat.reduceSub, Array.replicate_succ, Array.replicate_zero, List.push_toArray, List.append_toArray, List.nil_append, List.cons_append]
  gi_wp2_with (first
    | (refine ⟨trivial, ?_⟩; gi_at_call 6; refine (callsIn_wide.2 (bnew_any _ _)).mono ?_; rintro e w' ⟨rfl, rfl⟩))
  refine ⟨trivial, ?_⟩
  refine (callsIn_wide.2 (bput_len (w.heap.size + 1 + 1) (.slice none 0 0) (Bk.new n) a0 L.length cap0 L _ rfl ⟨IsBlk.out, OwnK.nil _ _, Bk.new_ok n⟩ (hE.below (by (repeat' (first | (with_reducible exact Below.refl _ _) | (with_reducible assumption) | (with_reducible refine Below.setCell ?_ ?_ _) | (with_reducible refine Below.alloc ?_ ?_ _) | (with_reducible refine Below.drew ?_) | (with_reducible refine Up.base _ ?_ ?_) | (with_reducible exact LeSize.out) | exact LeSize.out | exact Nat.le_add_right_of_le LeSize.out | exact Nat.le_add_right_of_le (Nat.le_add_right_of_le LeSize.out) | (with_reducible exact Nat.le_refl _) | (simp; done) | (simp; omega)))) (Nat.le_refl _)) (by simp [Bk.new]; omega) (fun ad h => ⟨by have := hab ad h; omega, by simp [Value.ownBlock]⟩))).mono ?_
  rintro e w5 ⟨rfl, v1, hk1, hm1⟩
  rw [hB1] at hk1 hm1
  have s5 := hm1.size
  simp only [World.size_alloc] at s5
  have iM : IsBlk w5 w.heap.size #[.int .i64 m0, .int .i64 m1, .int .i64 m2] 34 := ⟨(hm1.block _ (by simp; omega) (by omega) (by simp [Value.ownBlock])).trans IsBlk.out⟩
  have iR : IsBlk w5 (w.heap.size + 1) #[.bool false] 4 := ⟨(hm1.block _ (by simp <;> omega) (by omega) (by simp [Value.ownBlock])).trans IsBlk.out⟩
  have iP : IsBlk w5 (w.heap.size + 1 + 1 + 1) #[.pointer (some ⟨w.heap.size + 1 + 1, 0, none⟩)] 23 := ⟨(hm1.block _ (by simp) (by omega) (by simp [Value.ownBlock])).trans IsBlk.out⟩
  have hb5 : Below w.heap.size w w5 := Below.trans (by (repeat' (first | (with_reducible exact Below.refl _ _) | (with_reducible assumption) | (with_reducible refine Below.setCell ?_ ?_ _) | (with_reducible refine Below.alloc ?_ ?_ _) | (with_reducible refine Below.drew ?_) | (with_reducible refine Up.base _ ?_ ?_) | (with_reducible exact LeSize.out) | exact LeSize.out | exact Nat.le_add_right_of_le LeSize.out | exact Nat.le_add_right_of_le (Nat.le_add_right_of_le LeSize.out) | (with_reducible exact Nat.le_refl _) | (simp; done) | (simp; omega)))) (hm1.bel (B := w.heap.size) (by omega) (by simp) (by simp [Value.ownBlock]))
  have i5 : LeSize (w.heap.size + 1 + 1 + 1 + 1) w5 := ⟨s5⟩
  have i5a : LeSize w.heap.size w5 := ⟨by omega⟩
  have HOWN : Hid (∀ k, v1.ownBlock = some k → w.heap.size + 1 + 1 + 1 + 1 ≤ k ∧ k < w5.heap.size) := Lib.hid fun k hk => by
    rcases hm1.own k hk with h | h
    · simp [Value.ownBlock] at h
    · exact ⟨by simpa using h, (hk1.own k hk).1⟩
  have HK1 := Lib.hid hk1
  have HB5 := Lib.hid hb5
  clear hk1 hm1 hE hab hB1 hb5 s5
  have e3 : ((B1.L.length : Int) == 0) = false := beq_eq_false_iff_ne.2 (by omega)
  gi_wp2_with (first
    | (refine ⟨trivial, ?_⟩; gi_at_call 13; refine (callsIn_wide.2 (lall_pos _ _ _ _ HK1.out hlen.1)).mono ?_; rintro e w' ⟨g, capg, u, rfl, rfl, hg, hgs, hEg⟩)
    | (refine ⟨trivial, ?_⟩; gi_at_call 16; refine (callsIn_wide.2 (place_any _ _ _ (by omega) (by omega))).mono ?_; rintro e w' ⟨rfl, rfl⟩)
    | (refine ⟨trivial, ?_⟩; gi_at_call 17; refine (callsIn_wide.2 (ball_fn _ _)).mono ?_; rintro e w' ⟨rfl, rfl⟩))
  have hgU := hgs
  have hX1 : BookAt u.w (w.heap.size + 1 + 1) v1 B1 := HK1.out.below u.bel
  have hsu := u.bel.size
  have hEs := i5.out
  have hK0 : 0 ≤ at0 % (B1.L.length : Int) := Int.emod_nonneg _ (by omega)
  have hK1 : at0 % (B1.L.length : Int) < B1.L.length := Int.emod_lt_of_pos _ (by omega)
  generalize at0 % (B1.L.length : Int) = K at *
  obtain ⟨U, hU⟩ : ∃ U, u.w.heap.size = U := ⟨_, rfl⟩
  obtain ⟨X, hX⟩ : ∃ X, ((((u.w.alloc (.cells #[.slice (some ⟨g, 0, none⟩) B1.L.length capg] 28)).alloc (.cells #[.int .i64 K] 3)).alloc (.cells #[.pointer (some ⟨w.heap.size + 1 + 1, 0, none⟩)] 23)).alloc (.cells #[.int .i64 0] 3)) = X := ⟨_, rfl⟩
  have hl : Boxed X U 28 (.slice (some ⟨g, 0, none⟩) B1.L.length capg) := by rw [← hX, ← hU]; exact (inferInstance : IsBlk _ _ _ _).out
  have hk : Boxed X (U + 1) 3 (.int .i64 K) := by rw [← hX, ← hU]; exact (inferInstance : IsBlk _ _ _ _).out
  have hcb : Boxed X (U + 1 + 1) 23 (.pointer (some ⟨w.heap.size + 1 + 1, 0, none⟩)) := by rw [← hX, ← hU]; exact (inferInstance : IsBlk _ _ _ _).out
  have hn : Boxed X (U + 1 + 1 + 1) 3 (.int .i64 0) := by rw [← hX, ← hU]; exact (inferInstance : IsBlk _ _ _ _).out
  have hr : Boxed X (w.heap.size + 1) 4 (.bool false) := by rw [← hX]; exact (inferInstance : IsBlk _ _ _ _).out
  have hbp : Boxed X (w.heap.size + 1 + 1 + 1) 23 (.pointer (some ⟨w.heap.size + 1 + 1, 0, none⟩)) := by rw [← hX]; exact (inferInstance : IsBlk _ _ _ _).out
  have hM : IsBlk X w.heap.size #[.int .i64 m0, .int .i64 m1, .int .i64 m2] 34 := by rw [← hX]; infer_instance
  have hXs : X.heap.size = U + 1 + 1 + 1 + 1 := by rw [← hX, ← hU]; simp
  have hUX : Below U u.w X := by rw [← hX]; exact ((((Below.refl _ u.w).alloc (by omega) _).alloc (by simp; omega) _).alloc (by simp; omega) _).alloc (by simp; omega) _
  have hBX : Below w.heap.size w X := (HB5.out.trans (u.bel.mono (by omega))).trans (hUX.mono (by omega))
  have hX2 : BookAt X (w.heap.size + 1 + 1) v1 B1 := hX1.below (by rw [hU]; exact hUX)
  have hEX : Evs X (some ⟨g, 0, none⟩) B1.L := hEg.below hUX (by omega)
  rw [hX, hU]
  rw [hU] at hgU hsu
  have HEU : Hid (∀ W, Below U X W → Evs W (some ⟨g, 0, none⟩) B1.L) := Lib.hid fun W hb => hEg.below (hUX.trans hb) (by omega)
  have HBU : Hid (∀ W, Below U X W → BookAt W (w.heap.size + 1 + 1) v1 B1) := Lib.hid fun W hb => hX1.below (by rw [hU]; exact hUX.trans hb)
  clear hX iM iR iP i5 i5a hEg HB5 hUX e2' hgs hEX hU
  have HOW2 : Hid (∀ k, v1.ownBlock = some k → w.heap.size + 1 + 1 + 1 + 1 ≤ k ∧ k < U) := Lib.hid fun k hk => by have := HOWN.out k hk; omega
  have hgl : w.heap.size + 1 + 1 + 1 + 1 ≤ g ∧ ∀ k, v1.ownBlock = some k → k < g := ⟨by omega, fun k hk => by have := HOWN.out k hk; omega⟩
  have hwU : w.heap.size + 1 + 1 + 1 + 1 ≤ U := by omega
  clear HOWN HK1 hX1 hsu hEs
  have h1 : (1 : Nat) ≤ 6 := by omega
  have hstops := ball_stops 5 (by omega) (U + 1 + 1) (w.heap.size + 1 + 1) v1 B1 X (by omega) hcb.cell hX2
  have HKR : Hid (∀ W W', Below (U + 1 + 1 + 1) X W → Below (U + 1 + 1 + 1) X W' → W.heap.size ≤ W'.heap.size → KeepRow v1 B1.L.length W W') := Lib.hid fun W W' h1 h2 h3 => ⟨h3, fun k hk i _ => World.cell?_of_block (a := ⟨k, i, none⟩) ((h2.block k (by have := HOW2.out k hk; omega)).trans (h1.block k (by have := HOW2.out k hk; omega)).symm)⟩
  refine wpIn_rangeFunc_ownH rfl h1 (gf := 19) (lb := #[.pointer (some ⟨U + 1 + 1, 0, none⟩)]) rfl trivial (enters_of Try.func19 (by kernel_rfl) rfl)
    hstops keepRow_t (keepRow_b (fun k hk => by have := HOW2.out k hk; omega)) (Below.refl _ _) (fun _ => rfl)
    (fun pre W => ((Boxed W (U + 1 + 1 + 1) 3 (.int .i64 (pre.length : Int))) ∧ Below (U + 1 + 1 + 1) X W) ∧ (pre <+: B1.L ∧ (pre.length : Int) ≤ K))
    (fun c pre W => (c = .exit 0 ∨ ¬ pre <+: B1.L) ∧ (pre <+: B1.L → (Boxed W (U + 1 + 1 + 1) 3 (.int .i64 K) ∧ Below (U + 1 + 1 + 1) X W)))
    (OwnFrom.and (OwnFrom.and (Own.from (boxed_own (U + 1 + 1 + 1) 3 fun pre : List Ev => Value.int .i64 (pre.length : Int)) _) (ownFrom_below (by omega) (by omega))) (ownFrom_pure _ _))
    (fun c => OwnFrom.and (ownFrom_pure _ _) (ownFrom_imp2 (OwnFrom.and (Own.from (boxed_own _ _ _) _) (ownFrom_below (by omega) (by omega)))))
    ⟨⟨hn, Below.refl _ _⟩, List.nil_prefix, hK0⟩
    (fun x a' W => ∃ q, a' = { tmps := #[.int .i64 n, .slice a0 L.length cap0, .int .i64 at0, .agg #[.int .i64 m0, .int .i64 m1, .int .i64 m2], undef, undef, undef, .pointer (some ⟨w.heap.size, 0, none⟩), .pointer (some ⟨w.heap.size + 1, 0, none⟩), .pointer (some ⟨w.heap.size + 1 + 1 + 1, 0, none⟩), .pointer (some ⟨U, 0, none⟩), .pointer (some ⟨U + 1, 0, none⟩), (.func (.func 19) #[] #[.pointer (some ⟨U + 1 + 1, 0, none⟩)]), .pointer (some ⟨U + 1 + 1 + 1, 0, none⟩), .pointer (some ⟨q, 0, none⟩), undef, undef, .int .i64 n, .pointer (some ⟨w.heap.size + 1 + 1, 0, none⟩), .pointer (some ⟨w.heap.size + 1 + 1, 0, none⟩), .bool false, .bool false, .slice a0 L.length cap0, .int .i64 L.length, .bool false, .bool false, .bool false, .slice a0 L.length cap0, .int .i64 L.length, .bool false, .bool false, undef, undef, undef, undef, undef, .pointer (some ⟨w.heap.size + 1 + 1, 0, none⟩), .slice a0 L.length cap0, .tuple #[], .pointer (some ⟨w.heap.size + 1 + 1, 0, none⟩), .slice (some ⟨g, 0, none⟩) B1.L.length capg, .slice (some ⟨g, 0, none⟩) B1.L.length capg, .int .i64 B1.L.length, .bool false, .int .i64 at0, .slice (some ⟨g, 0, none⟩) B1.L.length capg, .int .i64 B1.L.length, .int .i64 K, .pointer (some ⟨w.heap.size + 1 + 1, 0, none⟩), (.func (.func 19) #[] #[.pointer (some ⟨U + 1 + 1, 0, none⟩)]), (.func (.func 19) #[] #[.pointer (some ⟨U + 1 + 1, 0, none⟩)]), .agg #[.int .i64 x.1, .int .i64 x.2.1, .int .i64 x.2.2], undef, undef, undef, undef, undef, undef, undef, undef, undef, undef, undef, undef, undef, undef, undef, undef, undef, undef, undef, undef, undef, undef, undef, undef, undef, undef, undef, undef, undef, undef, undef, undef, undef, undef, undef, undef, undef, undef, undef, undef, undef, undef, undef, undef, undef, undef, undef, undef, undef, undef, undef], defers := [] } ∧ W.heap[q]? = some (.cells #[.int .i64 x.1, .int .i64 x.2.1, .int .i64 x.2.2] 34))
    (fun x a' _ W W' row hs hg hr => by
      obtain ⟨q, e, hq⟩ := hs
      refine ⟨q, e, (hg.block q (Array.getElem?_eq_some_iff.1 hq).1 (fun e => ?_)).trans hq⟩
      obtain ⟨_, o, ho, hc⟩ := hr q e.symm
      rw [hq] at ho; cases ho; cases hc)
    ?assign ?body ?done ?stop
  case assign =>
    rintro l pre x W K2 ⟨⟨hnW, hB⟩, hp⟩ hK2
    have hB' := hB.alloc (Nat.le_trans (by omega) hB.size) (.cells #[.int .i64 x.1, .int .i64 x.2.1, .int .i64 x.2.2] 34)
    have hk3 := hK2 _ _ ((KeepsOthers.alloc W (.cells #[.int .i64 x.1, .int .i64 x.2.1, .int .i64 x.2.2] 34)).from _) (HKR.out _ _ hB hB' (by simp)) ⟨⟨hnW.alloc _, hB'⟩, hp⟩ ⟨W.heap.size, rfl, heap_alloc_here _ _⟩
    have HK2 := Lib.hid hk3
    clear hK2 hk3 hB' hB hnW hp
    simp only [evA]
    gi_wp2
    exact HK2.out
  case body =>
    rintro l pre x a' W _ _ ⟨⟨hnW, hB⟩, hp, hpk⟩ ⟨q, rfl, hq⟩ hlt
    have c1 := ret_of_belowB hB (by omega) hl.cell
    have c2 := ret_of_belowB hB (by omega) hk.cell
    have c3 := hnW.cell
    have f3 := hnW.frozen
    have c5 := ret_of_belowB hB (by omega) hr.cell
    have f5 : W.frozen? ⟨w.heap.size + 1, 0, none⟩ = false := by rw [hB.frozen (p := ⟨w.heap.size + 1, 0, none⟩) (by simp; omega)]; exact hr.frozen
    have g1 : B1.L[pre.length]? = some B1.L[pre.length] := List.getElem?_eq_getElem hlt
    obtain ⟨b1, o1, eb, hb1, y0, y1, y2⟩ := (HEU.out W (hB.mono (by omega))).at g1
    cases eb
    simp only [Nat.zero_add] at y0 y1 y2
    have q0 : W.cell? ⟨q, 0, none⟩ = some (.int .i64 x.1) := laid_cell hq 0 rfl
    have q1 : W.cell? ⟨q, 1, none⟩ = some (.int .i64 x.2.1) := laid_cell hq 1 rfl
    have q2 : W.cell? ⟨q, 2, none⟩ = some (.int .i64 x.2.2) := laid_cell hq 2 rfl
    have d1 : decide ((B1.L.length : Int) ≤ (pre.length : Int)) = false := decide_eq_false (by omega)
    have d1n : decide (B1.L.length ≤ pre.length) = false := decide_eq_false (by omega)
    have d2 : (pre.length : Int) < (B1.L.length : Int) := by omega
    have HR := run_ev_neq
    have hW0 : W.heap.size ≤ W.heap.size := Nat.le_refl _
    have HNW := Lib.hid hnW
    have HB := Lib.hid hB
    by_cases hx : x = B1.L[pre.length]
    · have hpx : pre ++ [x] <+: B1.L := prefix_atE hp hlt (by rw [hx]; exact g1)
      generalize B1.L[pre.length] = y at *
      subst hx
      clear g1 hnW hB hq hb1
      by_cases hnk : (pre.length : Int) = K
      · have e4 : ((pre.length : Int) == K) = true := beq_iff_eq.2 hnk
        have HN := Lib.hid hnk
        clear hnk
        gi_wp2
        refine wpIn_region_round rfl (by kernel_rfl) (by kernel_rfl) ?_
        repeat (gi_big_quiet_step (fail))
        refine wpQuietIn_nil ?_
        rintro _ ⟨nq, rfl⟩
        gi_wp2
        exact ⟨keepsFrom_drewN _ _ _, .inl rfl, fun _ => ⟨by rw [← HN.out]; exact HNW.out, below_drewN HB.out _⟩⟩
      · have e4 : ((pre.length : Int) == K) = false := beq_eq_false_iff_ne.2 hnk
        have hlt3 : (pre.length : Int) < K := by omega
        clear hnk
        gi_wp2
        refine wpIn_region_round rfl (by kernel_rfl) (by kernel_rfl) ?_
        repeat (gi_big_quiet_step (fail))
        refine wpQuietIn_nil ?_
        rintro _ ⟨nq, rfl⟩
        gi_wp2
        have hnq : Boxed (W.drewN nq) (U + 1 + 1 + 1) 3 (.int .i64 (pre.length : Int)) := HNW.out
        have hbq : Below (U + 1 + 1 + 1) X ((W.drewN nq).setCell ⟨U + 1 + 1 + 1, 0, none⟩ (.int .i64 ((pre.length : Int) + 1))) := (below_drewN HB.out nq).setCell (p := ⟨U + 1 + 1 + 1, 0, none⟩) (Nat.le_refl _) _
        exact ⟨(keepsFrom_drewN _ _ _).trans ((KeepsOthers.setCell _ _ _).from _), HKR.out _ _ HB.out hbq (by simp [World.setCell]), ⟨⟨by simpa using hnq.set (.int .i64 ((pre.length : Int) + 1)), hbq⟩, hpx, by simp; omega⟩⟩
    · have hbad : ¬ (pre ++ [x]) <+: B1.L := fun h => hx (by have := prefix_lastE h; rw [g1] at this; exact (Option.some.inj this).symm)
      generalize B1.L[pre.length] = y at *
      have e4 : (x != y) = true := by rw [bne_iff_ne]; exact hx
      clear hx g1 hnW hB hq hb1
      gi_wp2
      refine wpIn_region_round rfl (by kernel_rfl) (by kernel_rfl) ?_
      repeat (gi_big_quiet_step (fail))
      refine wpQuietIn_nil ?_
      rintro _ ⟨nq, rfl⟩
      gi_wp2
      exact ⟨(keepsFrom_drewN _ _ _).trans ((KeepsOthers.setCell _ _ _).from _), .inr hbad, fun h => absurd h hbad⟩
  case done =>
    rintro D ys W hD rfl ⟨⟨hnW, hB⟩, hp, hpk⟩ hK
    exact absurd hK1 (by omega)
  case stop =>
    rintro D c pre W hD hpre ⟨hc, hI⟩ hK
    rcases hc with rfl | hc
    · obtain ⟨hnW, hB⟩ := hI hpre
      clear hI
      gi_wp2
      have hDW : D < W.heap.size := (Array.getElem?_eq_some_iff.1 hK).1
      have hWs := hnW.lt
      obtain ⟨jB, hjB⟩ : ∃ jB, W.heap.size = jB := ⟨_, rfl⟩
      obtain ⟨Y, hY⟩ : ∃ Y, W.alloc (.cells #[.int .i64 0] 3) = Y := ⟨_, rfl⟩
      have hm : Boxed Y jB 3 (.int .i64 0) := by rw [← hY, ← hjB]; exact Boxed.new _ _ _
      have hl2 : Boxed Y U 28 (.slice (some ⟨g, 0, none⟩) B1.L.length capg) := by rw [← hY]; exact Boxed.alloc ((hB.block _ (by omega)).trans hl) _
      have hk2 : Boxed Y (U + 1) 3 (.int .i64 K) := by rw [← hY]; exact Boxed.alloc ((hB.block _ (by omega)).trans hk) _
      have hcb2 : Boxed Y (U + 1 + 1) 23 (.pointer (some ⟨w.heap.size + 1 + 1, 0, none⟩)) := by rw [← hY]; exact Boxed.alloc ((hB.block _ (by omega)).trans hcb) _
      have hr2 : Boxed Y (w.heap.size + 1) 4 (.bool false) := by rw [← hY]; exact Boxed.alloc ((hB.block _ (by omega)).trans hr) _
      have hbp2 : Boxed Y (w.heap.size + 1 + 1 + 1) 23 (.pointer (some ⟨w.heap.size + 1 + 1, 0, none⟩)) := by rw [← hY]; exact Boxed.alloc ((hB.block _ (by omega)).trans hbp) _
      have hM2 : Y.heap[w.heap.size]? = some (.cells #[.int .i64 m0, .int .i64 m1, .int .i64 m2] 34) := by rw [← hY, Below.heap_alloc _ _ _ (by omega), hB.block _ (by omega)]; exact hM.out
      have hi2 : Boxed Y (U + 1 + 1 + 1) 3 (.int .i64 K) := by rw [← hY]; exact hnW.alloc _
      have hKY : Y.heap[D]? = some (.deferred (some [])) := by rw [← hY, Below.heap_alloc _ _ _ hDW]; exact hK
      have hYs : Y.heap.size = jB + 1 := by rw [← hY, ← hjB]; simp
      have hBUY : Below U X Y := by rw [← hY]; exact (hB.mono (by omega)).alloc (by omega) _
      have hBY : Below w.heap.size w Y := hBX.trans (hBUY.mono (by omega))
      have hEY := HEU.out Y hBUY
      have hBkY := HBU.out Y hBUY
      have HBU2 : Hid (∀ W, Below U Y W → BookAt W (w.heap.size + 1 + 1) v1 B1) := Lib.hid fun W hb => HBU.out W (hBUY.trans hb)
      rw [hY, hjB]
      rw [hjB] at hDW hWs
      clear hY hjB hnW hl hk hcb hn hr hbp hM hB HEU HBU hX2 hBX hBUY HKR hstops hK
      have HM2 := Lib.hid hM2
      have HEY := Lib.hid hEY
      have HBkY := Lib.hid hBkY
      have hstops2 := ball_stops 5 (by omega) (U + 1 + 1) (w.heap.size + 1 + 1) v1 B1 Y (by omega) hcb2.cell hBkY
      clear hM2 hEY hBkY
      refine wpIn_rangeFunc_ownH rfl h1 (gf := 19) (lb := #[.pointer (some ⟨U + 1 + 1, 0, none⟩)]) rfl trivial (enters_of Try.func19 (by kernel_rfl) rfl)
        hstops2 keepRow_t (keepRow_b (fun k hk => by have := HOW2.out k hk; omega)) (Below.refl _ _) (fun _ => rfl)
        (fun pre W2 => ((Boxed W2 jB 3 (.int .i64 (pre.length : Int))) ∧ LeftB (w.heap.size + 1 + 1) jB v1 Y W2) ∧ (pre <+: B1.L ∧ (pre = [] → Below jB Y W2)))
        (fun c pre W2 => ¬ pre <+: B1.L)
        (OwnFrom.and (OwnFrom.and (Own.from (boxed_own jB 3 fun pre : List Ev => Value.int .i64 (pre.length : Int)) _) LeftB.from) (OwnFrom.and (ownFrom_pure _ _) (ownFrom_imp2 (ownFrom_below (by omega) (by omega)))))
        (fun c => ownFrom_pure _ _)
        ⟨⟨hm, LeftB.refl _ _ _ _⟩, List.nil_prefix, fun _ => Below.refl _ _⟩
        (fun x a' W => ∃ q, a' = { tmps := #[.int .i64 n, .slice a0 L.length cap0, .int .i64 at0, .agg #[.int .i64 m0, .int .i64 m1, .int .i64 m2], undef, undef, undef, .pointer (some ⟨w.heap.size, 0, none⟩), .pointer (some ⟨w.heap.size + 1, 0, none⟩), .pointer (some ⟨w.heap.size + 1 + 1 + 1, 0, none⟩), .pointer (some ⟨U, 0, none⟩), .pointer (some ⟨U + 1, 0, none⟩), (.func (.func 19) #[] #[.pointer (some ⟨U + 1 + 1, 0, none⟩)]), .pointer (some ⟨U + 1 + 1 + 1, 0, none⟩), undef, .pointer (some ⟨jB, 0, none⟩), .pointer (some ⟨q, 0, none⟩), .int .i64 n, .pointer (some ⟨w.heap.size + 1 + 1, 0, none⟩), .pointer (some ⟨w.heap.size + 1 + 1, 0, none⟩), .bool false, .bool false, .slice a0 L.length cap0, .int .i64 L.length, .bool false, .bool false, .bool false, .slice a0 L.length cap0, .int .i64 L.length, .bool false, .bool false, undef, undef, undef, undef, undef, .pointer (some ⟨w.heap.size + 1 + 1, 0, none⟩), .slice a0 L.length cap0, .tuple #[], .pointer (some ⟨w.heap.size + 1 + 1, 0, none⟩), .slice (some ⟨g, 0, none⟩) B1.L.length capg, .slice (some ⟨g, 0, none⟩) B1.L.length capg, .int .i64 B1.L.length, .bool false, .int .i64 at0, .slice (some ⟨g, 0, none⟩) B1.L.length capg, .int .i64 B1.L.length, .int .i64 K, .pointer (some ⟨w.heap.size + 1 + 1, 0, none⟩), (.func (.func 19) #[] #[.pointer (some ⟨U + 1 + 1, 0, none⟩)]), (.func (.func 19) #[] #[.pointer (some ⟨U + 1 + 1, 0, none⟩)]), undef, undef, undef, undef, undef, undef, undef, undef, undef, undef, undef, undef, undef, undef, undef, undef, undef, undef, (.func (.func 19) #[] #[.pointer (some ⟨U + 1 + 1, 0, none⟩)]), .agg #[.int .i64 x.1, .int .i64 x.2.1, .int .i64 x.2.2], undef, undef, undef, undef, undef, undef, undef, undef, undef, undef, undef, undef, undef, undef, undef, undef, undef, undef, undef, undef, undef, undef, undef, undef, undef, undef, undef, undef, undef, undef, undef, undef], defers := [] } ∧ W.heap[q]? = some (.cells #[.int .i64 x.1, .int .i64 x.2.1, .int .i64 x.2.2] 34))
        (fun x a' _ W W' row hs hg hr => by
          obtain ⟨q, e, hq⟩ := hs
          refine ⟨q, e, (hg.block q (Array.getElem?_eq_some_iff.1 hq).1 (fun e => ?_)).trans hq⟩
          obtain ⟨_, o, ho, hc⟩ := hr q e.symm
          rw [hq] at ho; cases ho; cases hc)
        ?assign2 ?body2 ?done2 ?stop2
      case assign2 =>
        rintro l pre x W2 K2 ⟨⟨hmW, hLB⟩, hp, hP0⟩ hK2
        have hs2 := hLB.size
        have hk3 := hK2 _ _ ((KeepsOthers.alloc W2 (.cells #[.int .i64 x.1, .int .i64 x.2.1, .int .i64 x.2.2] 34)).from _) ⟨by simp, fun k hk i _ => World.cell?_of_block (a := ⟨k, i, none⟩) (Below.heap_alloc _ _ _ (by have := HOW2.out k hk; show k < _; omega))⟩ ⟨⟨hmW.alloc _, hLB.below ((Below.refl _ _).alloc (Nat.le_refl _) _)⟩, hp, fun h => (hP0 h).alloc (by omega) _⟩ ⟨W2.heap.size, rfl, heap_alloc_here _ _⟩
        have HK2 := Lib.hid hk3
        clear hK2 hk3 hLB hmW hp hP0
        simp only [evA]
        gi_wp2
        exact HK2.out
      case body2 =>
        rintro l pre x a' W2 _ _ ⟨⟨hmW, hLB⟩, hp, hP0⟩ ⟨q, rfl, hq⟩ hlt
        have hs2 := hLB.size
        have hno : ∀ k, (k < w.heap.size + 1 + 1 + 1 + 1 ∨ U ≤ k ∨ k = g) → v1.ownBlock ≠ some k := fun k hk e => by have := HOW2.out k e; have := hgl.2 k e; omega
        have c1 := hLB.cell (by omega) (by omega) (by omega) (hno U (by omega)) hl2.cell
        have c3 := hmW.cell
        have f3 := hmW.frozen
        have c5 := hLB.cell (by omega) (by omega) (by omega) (hno (w.heap.size + 1) (by omega)) hr2.cell
        have f5 : W2.frozen? ⟨w.heap.size + 1, 0, none⟩ = false := Boxed.frozen (t := 4) (v := .bool false) ((hLB.block _ (by omega) (by omega) (by omega) (hno (w.heap.size + 1) (by omega))).trans hr2)
        have c6 := hLB.cell (by omega) (by omega) (by omega) (hno (w.heap.size + 1 + 1 + 1) (by omega)) hbp2.cell
        have iM : IsBlk W2 w.heap.size #[.int .i64 m0, .int .i64 m1, .int .i64 m2] 34 := ⟨(hLB.block _ (by omega) (by omega) (by omega) (hno w.heap.size (by omega))).trans HM2.out⟩
        have g1 : B1.L[pre.length]? = some B1.L[pre.length] := List.getElem?_eq_getElem hlt
        obtain ⟨b1, o1, eb, hb1, y0, y1, y2⟩ := HEY.out.at g1
        cases eb
        simp only [Nat.zero_add] at y0 y1 y2
        replace y0 := hLB.cell (by omega) (by omega) (by omega) (hno g (by omega)) y0
        replace y1 := hLB.cell (by omega) (by omega) (by omega) (hno g (by omega)) y1
        replace y2 := hLB.cell (by omega) (by omega) (by omega) (hno g (by omega)) y2
        have q0 : W2.cell? ⟨q, 0, none⟩ = some (.int .i64 x.1) := laid_cell hq 0 rfl
        have q1 : W2.cell? ⟨q, 1, none⟩ = some (.int .i64 x.2.1) := laid_cell hq 1 rfl
        have q2 : W2.cell? ⟨q, 2, none⟩ = some (.int .i64 x.2.2) := laid_cell hq 2 rfl
        have d1 : decide ((B1.L.length : Int) ≤ (pre.length : Int)) = false := decide_eq_false (by omega)
        have d1n : decide (B1.L.length ≤ pre.length) = false := decide_eq_false (by omega)
        have d2 : (pre.length : Int) < (B1.L.length : Int) := by omega
        have HR := run_ev_neq
        have HMW := Lib.hid hmW
        have HLB := Lib.hid hLB
        have HP0 := Lib.hid hP0
        by_cases hx : x = B1.L[pre.length]
        · have hpx : pre ++ [x] <+: B1.L := prefix_atE hp hlt (by rw [hx]; exact g1)
          generalize B1.L[pre.length] = y at *
          subst hx
          clear g1 hmW hLB hP0 hq hb1
          by_cases hp0 : pre = []
          · have hp1 : ((pre.length : Int) == 0) = true := by rw [hp0]; rfl
            have HP1 := Lib.hid hp0
            clear hp0
            gi_wp2
            refine wpIn_region_round rfl (by kernel_rfl) (by kernel_rfl) ?_
            repeat (gi_big_quiet_step (fail))
            refine wpQuietIn_nil ?_
            rintro _ ⟨nq, rfl⟩
            gi_wp2
            obtain ⟨W3, hW3⟩ : ∃ W3, (W2.drewN nq).alloc (.cells #[.int .i64 m0, .int .i64 m1, .int .i64 m2] 34) = W3 := ⟨_, rfl⟩
            have hE3 : Evs W3 (some ⟨W2.heap.size, 0, none⟩) [(m0, m1, m2)] := by rw [← hW3]; exact evs_new (W2.drewN nq) [(m0, m1, m2)] (by simp [evC])
            have hB3 : Below W2.heap.size W2 W3 := by rw [← hW3]; exact (below_drewN (Below.refl _ _) nq).alloc (Nat.le_refl _) _
            have hBk3 := HBU2.out W3 (((HP0.out HP1.out).mono (by omega)).trans (hB3.mono (by omega)))
            have hOW := HOW2.out
            rw [hW3]
            clear hW3
            refine ⟨trivial, ?_⟩
            refine (CallsIn.inRound l (callsIn_wide.2 (bput_len (w.heap.size + 1 + 1) v1 B1 (some ⟨W2.heap.size, 0, none⟩) 1 1 [(m0, m1, m2)] W3 rfl hBk3 hE3 (by simp; omega) (fun ad e => by cases e; exact ⟨by simp; omega, fun e => by have := hOW _ e; simp only at this; omega⟩)))).mono ?_
            rintro e W4 ⟨rfl, v4, hk4, hm4⟩
            have hs3 := hB3.size
            have hs4 := hm4.size
            have hj4 : Boxed W4 jB 3 (.int .i64 (pre.length : Int)) := (hm4.block jB (by omega) (by omega) (fun e => by have := hOW _ e; omega)).trans ((hB3.block jB (by omega)).trans HMW.out)
            have hL4 : LeftB (w.heap.size + 1 + 1) jB v1 Y W4 := (HLB.out.below hB3).moved hm4
            have HKE : Hid (∀ v, KeepsFrom Y.heap.size W2 (W4.setCell ⟨jB, 0, none⟩ v) ∧ KeepRow v1 B1.L.length W2 (W4.setCell ⟨jB, 0, none⟩ v)) := Lib.hid fun v => by
              refine ⟨⟨by simp [World.setCell]; omega, fun k o hk h _ => ?_⟩, ⟨by simp [World.setCell]; omega, fun k hk i hi => ?_⟩⟩
              · have hkl := (Array.getElem?_eq_some_iff.1 h).1
                rw [Below.heap_setCell W4 _ _ _ (show k ≠ jB by omega), hm4.block k (by omega) (by omega) (fun e => by have := hOW _ e; omega), hB3.block k hkl]
                exact h
              · have := hOW k hk
                rw [World.cell?_of_block (a := ⟨k, i, none⟩) (Below.heap_setCell W4 _ _ _ (show k ≠ jB by omega)), hm4.cells k hk i hi]
                exact World.cell?_of_block (a := ⟨k, i, none⟩) (hB3.block k (by omega))
            have c7 := hj4.cell
            have f7 := hj4.frozen
            have HJ4 := Lib.hid hj4
            have HL4 := Lib.hid hL4
            clear hj4 hL4 hm4 hk4 hBk3 hE3 hB3 hOW
            gi_wp2
            exact ⟨(HKE.out _).1, (HKE.out _).2, ⟨⟨by simpa using HJ4.out.set (.int .i64 ((pre.length : Int) + 1)), HL4.out.set _ _⟩, hpx, fun h => by simp at h⟩⟩
          · have hp1 : ((pre.length : Int) == 0) = false := beq_eq_false_iff_ne.2 (by have := List.length_pos_iff.2 hp0; omega)
            gi_wp2
            refine wpIn_region_round rfl (by kernel_rfl) (by kernel_rfl) ?_
            repeat (gi_big_quiet_step (fail))
            refine wpQuietIn_nil ?_
            rintro _ ⟨nq, rfl⟩
            gi_wp2
            have hnq : Boxed (W2.drewN nq) jB 3 (.int .i64 (pre.length : Int)) := HMW.out
            have hbq : LeftB (w.heap.size + 1 + 1) jB v1 Y ((W2.drewN nq).setCell ⟨jB, 0, none⟩ (.int .i64 ((pre.length : Int) + 1))) := LeftB.set (W := W2.drewN nq) (HLB.out.below (below_drewN (Below.refl _ _) _)) _ _
            exact ⟨(keepsFrom_drewN _ _ _).trans ((KeepsOthers.setCell _ _ _).from _), ⟨by simp [World.setCell], fun k hk i _ => World.cell?_of_block (a := ⟨k, i, none⟩) (Below.heap_setCell (W2.drewN nq) _ _ _ (by have := HOW2.out k hk; show k ≠ jB; omega))⟩, ⟨⟨by simpa using hnq.set (.int .i64 ((pre.length : Int) + 1)), hbq⟩, hpx, fun h => by simp at h⟩⟩
        · have hbad : ¬ (pre ++ [x]) <+: B1.L := fun h => hx (by have := prefix_lastE h; rw [g1] at this; exact (Option.some.inj this).symm)
          generalize B1.L[pre.length] = y at *
          have e4 : (x != y) = true := by rw [bne_iff_ne]; exact hx
          clear hx g1 hmW hLB hP0 hq hb1
          gi_wp2
          refine wpIn_region_round rfl (by kernel_rfl) (by kernel_rfl) ?_
          repeat (gi_big_quiet_step (fail))
          refine wpQuietIn_nil ?_
          rintro _ ⟨nq, rfl⟩
          gi_wp2
          exact ⟨(keepsFrom_drewN _ _ _).trans ((KeepsOthers.setCell _ _ _).from _), hbad⟩
      case stop2 =>
        rintro D2 c2 pre2 W2 hD2 hpre2 hbad hK2
        exact absurd hpre2 hbad
      case done2 =>
        rintro D2 ys W2 hD2 rfl ⟨⟨hmW, hLB⟩, _⟩ hK2
        have hs2 := hLB.size
        have hOW := HOW2.out
        have hno : ∀ k, (k < w.heap.size + 1 + 1 + 1 + 1 ∨ U ≤ k) → v1.ownBlock ≠ some k := fun k hk e => by have := hOW k e; omega
        have c1 := hLB.cell (by omega) (by omega) (by omega) (hno U (by omega)) hl2.cell
        have c2 := hLB.cell (by omega) (by omega) (by omega) (hno (U + 1) (by omega)) hk2.cell
        have c3 := hmW.cell
        have c4 := hLB.cell (by omega) (by omega) (by omega) (hno (U + 1 + 1 + 1) (by omega)) hi2.cell
        have c5 := hLB.cell (by omega) (by omega) (by omega) (hno (w.heap.size + 1) (by omega)) hr2.cell
        have f5 : W2.frozen? ⟨w.heap.size + 1, 0, none⟩ = false := Boxed.frozen (t := 4) (v := .bool false) ((hLB.block _ (by omega) (by omega) (by omega) (hno (w.heap.size + 1) (by omega))).trans hr2)
        have hKW : W2.heap[D]? = some (.deferred (some [])) := (hLB.block D (by omega) (by omega) (by omega) (hno D (by omega))).trans hKY
        have hBW : Below w.heap.size w W2 := hBY.trans (hLB.bel (by omega) (by omega) (by omega) (fun k hk => by have := hOW k hk; omega))
        have j0 : LeSize (w.heap.size + 1 + 1) W2 := ⟨by omega⟩
        have hD2W : D2 < W2.heap.size := (Array.getElem?_eq_some_iff.1 hK2).1
        have hDW2 : D < W2.heap.size := (Array.getElem?_eq_some_iff.1 hKW).1
        clear hstops2 hOW
        gi_wp2_with (refine ⟨trivial, ?_⟩; gi_at_call 8; refine (callsIn_wide.2 (Up.run (awakeB_any _))).mono ?_; rintro e w' ⟨rfl, u2, rfl⟩)
        have hu2 : u2.w.cell? ⟨w.heap.size + 1, 0, none⟩ = some (.bool false) := by rw [Up.cell]; exact c5
        have hE2 : (u2.w.setCell ⟨w.heap.size + 1, 0, none⟩ (.bool true)).heap[D2]? = some (.deferred (some [])) := by
          rw [Below.heap_setCell _ _ _ _ (by simp; omega), u2.bel.block _ hD2W]; exact hK2
        have hE1 : ((u2.w.setCell ⟨w.heap.size + 1, 0, none⟩ (.bool true)).putObj D2 (.deferred none)).heap[D]? = some (.deferred (some [])) := by
          rw [World.putObj_heap_other (by omega), Below.heap_setCell _ _ _ _ (by simp; omega), u2.bel.block _ hDW2]; exact hKW
        refine ⟨by simp, .inl ⟨_, _, rfl, run_takeDeferred hE2, by simp, .inl ⟨_, _, rfl, run_takeDeferred hE1, ?_⟩⟩⟩
        have hc6 := cell_kept (World.cell?_setCell_same' u2.w ⟨w.heap.size + 1, 0, none⟩ (.bool true) (by rw [hu2]; rfl)) (grownBy_putObj' _ D2 (.deferred none)) (fun r e => by cases e; exact ⟨_, hE2, rfl⟩)
        have hc7 := cell_kept hc6 (grownBy_putObj' _ D (.deferred none)) (fun r e => by cases e; exact ⟨_, hE1, rfl⟩)
        have hb1 : Below w.heap.size w (u2.w.setCell ⟨w.heap.size + 1, 0, none⟩ (.bool true)) := (hBW.trans (u2.bel.mono (by omega))).setCell (p := ⟨w.heap.size + 1, 0, none⟩) (by simp) _
        have hb2 := hb1.trans (belowK_b (n₀ := w.heap.size) (w := w) (Nat.le_refl _) _ D2 _ (.deferred none) (by omega) hE2 rfl rfl)
        have hb3 := hb2.trans (belowK_b (n₀ := w.heap.size) (w := w) (Nat.le_refl _) _ D _ (.deferred none) (by omega) hE1 rfl rfl)
        refine ⟨.bool true, ?_, rfl, hb3⟩
        simp [results, Try.f5, go_sem, hc7]
    · exact absurd hpre hc
theorem bookLeft_walk (n : Int) (a0 : Option Addr) (cap0 : Nat) (L : List Ev) (at0 m0 m1 m2 : Int) (w : World) (_ : InKind .i64 n) (hlc : L.length ≤ cap0) (hcm : cap0 ≤ 9223372036854775807) (hh : Hdr w a0 cap0) (hE : Evs w a0 L) (_ : InKind .i64 at0) (_ : InKind .i64 m0) (_ : InKind .i64 m1) (_ : InKind .i64 m2) :
    Calls Try.prog 5 #[.int .i64 n, .slice a0 L.length cap0, .int .i64 at0, .agg #[.int .i64 m0, .int .i64 m1, .int .i64 m2]] w fun e w' => e = .returned (.bool true) ∧ Below w.heap.size w w' := by
  by_cases h : L.length = 0 ∨ 60 < L.length
  · exact bookLeft_short n a0 cap0 L at0 m0 m1 m2 w h
  · have hrm : 1 ≤ roomM n ∧ roomM n ≤ 256 := (Bk.new_ok n).room
    obtain ⟨e1, e2⟩ := puts_new n L
    refine bookLeft_main n a0 cap0 L at0 m0 m1 m2 w (by omega) (by omega) (fun ad h => (cutA_ev hE hh hlc 0 (by omega)).2.2.1 ad h) hE _ rfl ?_ ?_
    · rw [e1]; simp; omega
    · rw [e2]; omega
theorem arr3 (cs : Array Value) (h : cs.size = 3) : ∃ c0 c1 c2, cs = #[c0, c1, c2] := by
  obtain ⟨l⟩ := cs
  match l, h with
  | [c0, c1, c2], _ => exact ⟨c0, c1, c2, rfl⟩
abbrev tsBookLeft3 : List TypeId := [3, 3, 3]
set_option maxRecDepth 100000 in
theorem BookLeft_lifted (os : Os) (started : os.Started) (H : Type) (enc : TypeId × Value → H) :
    ReturnsInHanded {} Try.checked os 5 .any (Rows.bookLeftSpec.pre6 enc Try.prog Try.f5 Rows.bookLeftRow.domain false) (Rows.bookLeftSpec.post enc Try.prog Try.f5 false true false false) := by
  refine returnsInHanded_of_change (C := Try.checked) own started (by kernel_rfl) Try.func5
    (ChangeSpec.witness6 (enc := enc) (C := Try.checked) false ⟨#[], #[.int .i64 0, .slice none 0 0, .int .i64 0, .agg #[.int .i64 0, .int .i64 0, .int .i64 0]], []⟩ 8 (by kernel_rfl) (by kernel_rfl) (by kernel_rfl) (by kernel_rfl)) ?_
  intro W base args ds gs before hval0 hW hcnd _
  have hval : ∀ (j : Nat) t v, Try.f5.params[j]? = some t → args[j]? = some v → Value.okWide Try.prog W .any base t v := hval0
  have hW' := hW
  obtain ⟨p, q, hA0, hV, rfl, hfz, hnd⟩ := hW
  have hA : DataW.TrodAll enc Try.prog W 0 (fun _ => true) true Try.f5.params.toList args.toList ds p := hA0
  rw [Try.params5] at hA hval
  obtain ⟨v0, vs0, d0, ds0, p0, q0, hargs, rfl, rfl, h0, r0⟩ := trodAll_cons hA
  obtain ⟨v1, vs1, d1, ds1, p1, q1, rfl, rfl, rfl, h1, r1⟩ := trodAll_cons r0
  obtain ⟨v2, vs2, d2, ds2, p2, q2, rfl, rfl, rfl, h2, r2⟩ := trodAll_cons r1
  obtain ⟨v3, vs3, d3, ds3, p3, q3, rfl, rfl, rfl, h3, r3⟩ := trodAll_cons r2
  obtain ⟨rfl, rfl, rfl⟩ := trodAll_nil r3
  obtain rfl : args = #[v0, v1, v2, v3] := by cases args; simp_all
  obtain ⟨rfl, rfl⟩ := trodVars_none hV
  have k0 := h0
  have lt0 : ∀ x ∈ p0, x.block < W.heap.size := by obtain ⟨m, hm⟩ := k0; exact DataW.trod_lt m _ _ _ hm
  have k1 := h1
  have lt1 : ∀ x ∈ p1, x.block < W.heap.size := by obtain ⟨m, hm⟩ := k1; exact DataW.trod_lt m _ _ _ hm
  have k2 := h2
  have lt2 : ∀ x ∈ p2, x.block < W.heap.size := by obtain ⟨m, hm⟩ := k2; exact DataW.trod_lt m _ _ _ hm
  have k3 := h3
  have lt3 : ∀ x ∈ p3, x.block < W.heap.size := by obtain ⟨m, hm⟩ := k3; exact DataW.trod_lt m _ _ _ hm
  obtain ⟨a0, rfl, w0⟩ := open_int1 Try.underlying3 (hval 0 3 v0 rfl rfl)
  obtain ⟨x1_0, x1_1, x1_2, rfl, y1_0, y1_1, y1_2, y1_3⟩ := open_evs (hval 1 28 v1 rfl rfl) k1
  obtain ⟨a2, rfl, w2⟩ := open_int1 Try.underlying3 (hval 2 3 v2 rfl rfl)
  obtain ⟨cs3, rfl, hs3, hf3⟩ := open_flat (ts := tsBookLeft3) (by rw [Try.underlying34]) (by kernel_rfl) (by kernel_rfl) (hval 3 34 v3 rfl rfl)
  obtain ⟨e3_0, e3_1, e3_2, rfl⟩ := arr3 cs3 hs3
  obtain ⟨a3_0, rfl, w3_0⟩ := Fit.int (t := 3) (v := e3_0) (hf3 0 (by simp)) Try.underlying3
  obtain ⟨a3_1, rfl, w3_1⟩ := Fit.int (t := 3) (v := e3_1) (hf3 1 (by simp)) Try.underlying3
  obtain ⟨a3_2, rfl, w3_2⟩ := Fit.int (t := 3) (v := e3_2) (hf3 2 (by simp)) Try.underlying3
  clear hA0 hval0
  refine (bookLeft_walk a0 x1_0 x1_1 x1_2 a2 a3_0 a3_1 a3_2 W w0 y1_0 y1_1 y1_2 y1_3 w2 w3_0 w3_1 w3_2).mono fun e W' ⟨he, bel⟩ => ?_
  subst he
  exact ⟨_, rfl, _, _, _, [], _, [], hW', trodAll_mk1 (shut_bool Try.underlying4 _), (trodAll_cons_mk (Below.trod laidOut (by kernel_rfl) (of_decide_eq_true (by kernel_rfl)) k0 bel lt0) (trodAll_cons_mk (Below.trod laidOut (by kernel_rfl) (of_decide_eq_true (by kernel_rfl)) k1 bel lt1) (trodAll_cons_mk (Below.trod laidOut (by kernel_rfl) (of_decide_eq_true (by kernel_rfl)) k2 bel lt2) (trodAll_cons_mk (Below.trod laidOut (by kernel_rfl) (of_decide_eq_true (by kernel_rfl)) k3 bel lt3) trodAll_mk0)))), rfl, bel.frame _, fun h => by cases h⟩

theorem BookLeft_over : Rows.bookLeftRow.holds Try.pinned (OpenSpec.ofChange Rows.bookLeftSpec) :=
  OpenClaim.holds_of_wide 5 Try.f5 rfl rfl rfl rfl rfl rfl rfl ⟨rfl, rfl, rfl, rfl, rfl⟩ rfl rfl rfl rfl rfl (by kernel_rfl) Try.func5 (by kernel_rfl)
    (of_decide_eq_true (by kernel_rfl)) (by unfold Func.isWrapper; first | (rw [if_pos (by decide +kernel)]; kernel_rfl) | (rw [if_neg (by decide +kernel)]; exact ⟨rfl, rfl⟩))
    (fun os started H enc _ => BookLeft_lifted os started H enc)

/-- The given statement. -/
theorem BookLeft_holds : Rows.BookLeftSaid := BookLeft_over
#print axioms BookLeft_holds
end Go.Proofs.Ytpmnhieehkjnmaa
