/- Books: awake; slices of events that came in; what Put makes of a new book. -/
import Derived.Test.YtpmnhieehkjnmaaBkF
import Derived.Test.YtpmnhieehkjnmaaPlace
namespace Go.Proofs.Ytpmnhieehkjnmaa
open Go.ChangeShapes Go.WideShapes Go.ChangeAt Go.RowKit
set_option linter.unusedVariables false

theorem lall_up (b : Nat) (v0 : Value) (B : Bk) (w : World) (h : BookAt w b v0 B) : Calls Try.prog 13 #[.pointer (some ⟨b, 0, none⟩)] w fun e w' => ∃ a' cap', ∃ u : Up w, e = .returned (.slice a' B.L.length cap') ∧ w' = u.w ∧ Evs u.w a' B.L ∧ B.L.length ≤ 256 := by
  refine (lall_any b v0 B w h).mono ?_
  rintro e w' ⟨v', rfl, hown, hbel⟩
  obtain ⟨a', cap', rfl, _, _, _, hr⟩ := hown.opened evC_len
  exact ⟨a', cap', ⟨w', hbel⟩, rfl, rfl, hr, h.opened.elim fun _ h => h.elim fun _ h => h.2.2.2.2⟩
theorem BookAt.kept {w w' : World} {b b2 : Nat} {v v2 v2' : Value} {B : Bk} {n n' : Nat} (h : BookAt w b v B) (m : Moved w w' b2 v2 v2' n n') (h1 : b ≠ b2) (h2 : v2.ownBlock ≠ some b) (h3 : ∀ k, v.ownBlock = some k → k ≠ b2 ∧ v2.ownBlock ≠ some k) : BookAt w' b v B := by
  refine ⟨(m.block b h.lt h1 h2).trans h.blk, ?_, h.ok⟩
  obtain ⟨hl, hr⟩ := h.row
  refine ⟨hl, ?_⟩
  rcases hr with hr | ⟨g, cap, cur, rfl, hg, hc, hr⟩
  · exact .inl hr
  · obtain ⟨k1, k2⟩ := h3 g rfl
    exact .inr ⟨g, cap, cur, rfl, hg, (m.block g (Array.getElem?_eq_some_iff.1 hc).1 k1 k2).trans hc, hr⟩
theorem evs_new (w : World) (L : List Ev) {cs : Array Value} {t : TypeId} (h : cs = (L.flatMap evC).toArray) : Evs (w.alloc (.cells cs t)) (some ⟨w.heap.size, 0, none⟩) L := by
  subst h
  refine .inr ⟨_, 0, rfl, by simp, fun i hi j hj => ?_⟩
  have g := List.getElem?_eq_getElem hi
  rw [World.cell?_alloc_at _ _ _ _ rfl, Nat.zero_add]
  have := flat_get evC_len L i j _ g hj
  rw [List.getElem?_toArray, this]
  simp only [evV, g, Option.bind_some]
  rw [List.getElem?_eq_getElem (by rw [evC_len]; exact hj)]; rfl
set_option maxHeartbeats 2000000 in
theorem awakeB_any (w : World) : Calls Try.prog 8 #[] w fun e w' => e = .returned (.bool true) ∧ Below w.heap.size w w' := by
  have hp : (Bk.new 1).puts [(1, 0, 0), (2, 0, 0)] = ⟨[(2, 0, 0)], 1, 1⟩ := rfl
  have hg : getM [(2, 0, 0)] 0 = (2, 0, 0) := rfl
  have hi : inM [((2 : Int), (0 : Int), (0 : Int))] 0 = true := rfl
  have hB : Hid (BookAt ((w.alloc (.cells #[.slice none 0 0, .int .i64 (roomM 1), .int .i64 0] 50)).alloc (.cells #[.int .i64 1, .int .i64 0, .int .i64 0, .int .i64 2, .int .i64 0, .int .i64 0] 34)) w.heap.size (.slice none 0 0) (Bk.new 1)) := Lib.hid ((bookAt_new 1 w).below ((Below.refl _ _).alloc (Nat.le_refl _) _))
  have hE : Hid (Evs ((w.alloc (.cells #[.slice none 0 0, .int .i64 (roomM 1), .int .i64 0] 50)).alloc (.cells #[.int .i64 1, .int .i64 0, .int .i64 0, .int .i64 2, .int .i64 0, .int .i64 0] 34)) (some ⟨w.heap.size + 1, 0, none⟩) [(1, 0, 0), (2, 0, 0)]) := Lib.hid (by
    have := evs_new (w.alloc (.cells #[.slice none 0 0, .int .i64 (roomM 1), .int .i64 0] 50)) [(1, 0, 0), (2, 0, 0)] (cs := #[.int .i64 1, .int .i64 0, .int .i64 0, .int .i64 2, .int .i64 0, .int .i64 0]) (t := 34) (by simp [evC])
    simpa using this)
  go_enter Try.func8, Try.ntmps8
  go_wp2_with (first
    | (go_at_call 6; refine (bnew_any _ _).mono ?_; rintro e w' ⟨rfl, rfl⟩)
    | (go_at_call 9; refine (bput_any _ _ (Bk.new 1) _ _ [(1, 0, 0), (2, 0, 0)] _ hB.out hE.out (by decide) (fun _ ad h => by cases h; exact ⟨by simp, by simp [Value.ownBlock]⟩)).mono ?_; rintro e w' ⟨rfl, v', hbk, hmv⟩; rw [hp] at hbk hmv; have HM := Lib.hid ((((Below.refl w.heap.size w).alloc (Nat.le_refl _) _).alloc (by simp) _).trans (hmv.bel (B := w.heap.size) (Nat.le_refl _) hB.out.lt (fun j h => by simp [Value.ownBlock] at h))); have HB := Lib.hid hbk; clear hbk hmv)
    | (go_at_call 11; refine (Up.run (bget_any _ _ _ _ _ HB.out)).mono ?_; rintro e w' ⟨rfl, u, rfl⟩; simp only [hg, hi]; have HU := Lib.hid (HB.out.below (u.bel)))
    | (go_at_call 15; refine (blost_any _ _ _ _ (HU.out.below (by (repeat' (first | (with_reducible exact Below.refl _ _) | (with_reducible assumption) | (with_reducible refine Below.setCell ?_ ?_ _) | (with_reducible refine Below.alloc ?_ ?_ _) | (with_reducible refine Below.drew ?_) | (with_reducible refine Up.base _ ?_ ?_) | (with_reducible exact LeSize.out) | exact LeSize.out | exact Nat.le_add_right_of_le LeSize.out | exact Nat.le_add_right_of_le (Nat.le_add_right_of_le LeSize.out) | (with_reducible exact Nat.le_refl _) | (simp; done) | (simp; omega)))))).mono ?_; rintro e w' ⟨rfl, rfl⟩)
    | (go_at_call 14; refine (blen_any _ _ _ _ (HU.out.below (by (repeat' (first | (with_reducible exact Below.refl _ _) | (with_reducible assumption) | (with_reducible refine Below.setCell ?_ ?_ _) | (with_reducible refine Below.alloc ?_ ?_ _) | (with_reducible refine Below.drew ?_) | (with_reducible refine Up.base _ ?_ ?_) | (with_reducible exact LeSize.out) | exact LeSize.out | exact Nat.le_add_right_of_le LeSize.out | exact Nat.le_add_right_of_le (Nat.le_add_right_of_le LeSize.out) | (with_reducible exact Nat.le_refl _) | (simp; done) | (simp; omega)))))).mono ?_; rintro e w' ⟨rfl, rfl⟩))
  go_returns
  have hb := HM.out
  haveI : LeSize w.heap.size _ := ⟨hb.size⟩
  exact ⟨rfl, by (repeat' (first | (with_reducible exact Below.refl _ _) | (with_reducible assumption) | (with_reducible refine Below.setCell ?_ ?_ _) | (with_reducible refine Below.alloc ?_ ?_ _) | (with_reducible refine Below.drew ?_) | (with_reducible refine Up.base _ ?_ ?_) | (with_reducible exact LeSize.out) | exact LeSize.out | exact Nat.le_add_right_of_le LeSize.out | exact Nat.le_add_right_of_le (Nat.le_add_right_of_le LeSize.out) | (with_reducible exact Nat.le_refl _) | (simp; done) | (simp; omega)))⟩

/-! ### What Put makes of a new book -/
theorem Bk.puts_append (B : Bk) (l m : List Ev) : B.puts (l ++ m) = (B.puts l).puts m := by simp [Bk.puts]
theorem puts_new (n : Int) (l : List Ev) : ((Bk.new n).puts l).L = l.drop (l.length - (roomM n).toNat) ∧ ((Bk.new n).puts l).lost = (l.length - (roomM n).toNat : Nat) := by
  have hr : 1 ≤ roomM n := (Bk.new_ok n).room.1
  have key : ∀ k, k ≤ l.length → ((Bk.new n).puts (l.take k)).L = (l.take k).drop (k - (roomM n).toNat) ∧ ((Bk.new n).puts (l.take k)).lost = (k - (roomM n).toNat : Nat) := by
    intro k
    induction k with
    | zero => intro _; simp [Bk.puts, Bk.new]
    | succ k ih =>
      intro hk
      obtain ⟨e1, e2⟩ := ih (by omega)
      have g : l[k]? = some l[k] := List.getElem?_eq_getElem (by omega)
      rw [Bk.puts_snoc _ _ g]
      have hrm : ((Bk.new n).puts (l.take k)).room = roomM n := by rw [Bk.puts_room]; rfl
      have hlen : ((Bk.new n).puts (l.take k)).L.length = k - (k - (roomM n).toNat) := by rw [e1]; simp; omega
      have ht : l.take (k + 1) = l.take k ++ [l[k]] := by rw [List.take_add_one, g]; rfl
      unfold Bk.put
      by_cases hf : (((Bk.new n).puts (l.take k)).L.length : Int) = ((Bk.new n).puts (l.take k)).room
      · rw [if_pos hf]
        rw [hrm, hlen] at hf
        refine ⟨?_, by simp only [e2]; omega⟩
        simp only [e1, ht, List.drop_drop]
        rw [List.drop_append_of_le_length (by simp; omega)]
        congr 2
        omega
      · rw [if_neg hf]
        rw [hrm, hlen] at hf
        refine ⟨?_, by simp only [e2]; omega⟩
        simp only [e1, ht]
        rw [show k - (roomM n).toNat = 0 by omega, show k + 1 - (roomM n).toNat = 0 by omega]; simp
  have := key l.length (Nat.le_refl _)
  simpa using this

/-! ### Slices of events that came in -/
theorem evs_of {V : Nat → Nat → Value} {len : Nat} (h : ∀ i, i < len → ∀ j, j < 3 → ∃ n, V i j = .int .i64 n ∧ InKind .i64 n) : ∃ L : List Ev, L.length = len ∧ (∀ i, i < len → ∀ j, j < 3 → V i j = evV L i j) := by
  refine ⟨(List.range len).map fun i => (match V i 0 with | .int _ n => n | _ => 0, match V i 1 with | .int _ n => n | _ => 0, match V i 2 with | .int _ n => n | _ => 0), by simp, fun i hi j hj => ?_⟩
  obtain ⟨n0, h0, _⟩ := h i hi 0 (by omega)
  obtain ⟨n1, h1, _⟩ := h i hi 1 (by omega)
  obtain ⟨n2, h2, _⟩ := h i hi 2 (by omega)
  have g : ((List.range len).map fun i => (match V i 0 with | .int _ n => n | _ => (0 : Int), match V i 1 with | .int _ n => n | _ => (0 : Int), match V i 2 with | .int _ n => n | _ => (0 : Int)))[i]? = some (n0, n1, n2) := by
    simp [hi, h0, h1, h2]
  rcases (show j = 0 ∨ j = 1 ∨ j = 2 by omega) with rfl | rfl | rfl <;> simp [evV, g, evC, h0, h1, h2]
theorem open_evs {H : Type} {enc : TypeId × Value → H} {w : World} {spare : Nat → Bool} {held : Bool} {r : Go.Reach} {base' base : Nat} {v : Value} {d : DataW H} {ps : List MemPlace}
    (hval : Value.okWide Try.prog w r base' 28 v) (hd : DataW.Trod enc Try.prog w base spare held 28 v d ps) :
    ∃ a cap, ∃ L : List Ev, v = .slice a L.length cap ∧ L.length ≤ cap ∧ cap ≤ 9223372036854775807 ∧ Hdr w a cap ∧ Evs w a L := by
  obtain ⟨a, len, cap, V, rfl, h1, h2, h3, h4, h5⟩ := open_rowk Try.underlying28 Try.underlying34 (k := 3) (by kernel_rfl) (by kernel_rfl) hval hd
  have hf : ∀ i, i < len → ∀ j, j < 3 → ∃ n, V i j = .int .i64 n ∧ InKind .i64 n := fun i hi j hj => by
    rcases (show j = 0 ∨ j = 1 ∨ j = 2 by omega) with rfl | rfl | rfl
    all_goals
      obtain ⟨n, x, hx⟩ := h5 i hi _ (by omega) _ rfl
      exact (fit_of_trod1 (t := 3) (by rw [Try.underlying3]) hx).int Try.underlying3
  obtain ⟨L, rfl, hL⟩ := evs_of hf
  exact ⟨a, cap, L, rfl, h1, h2, h3, h4.congr hL⟩
end Go.Proofs.Ytpmnhieehkjnmaa
