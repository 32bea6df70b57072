/- The law BookLast. -/
import Derived.Test.YtpmnhieehkjnmaaBkG
namespace Go.Proofs.Ytpmnhieehkjnmaa
open Go.ChangeShapes Go.WideShapes Go.ChangeAt Go.RowKit
set_option linter.unusedVariables false

theorem bput_len (b : Nat) (v : Value) (B : Bk) (a : Option Addr) (m cap : Nat) (xs : List Ev) (w : World) (hm : m = xs.length) (h : BookAt w b v B) (hx : Evs w a xs) (hlost : B.lost + xs.length ≤ 1000000) (hab : ∀ ad, a = some ad → ad.block ≠ b ∧ v.ownBlock ≠ some ad.block) :
    Calls Try.prog 9 #[.pointer (some ⟨b, 0, none⟩), .slice a m cap] w fun e w' => e = .returned (.tuple #[]) ∧ ∃ v', BookAt w' b v' (B.puts xs) ∧ Moved w w' b v v' B.L.length (B.puts xs).L.length := by
  subst hm; exact bput_any b v B a cap xs w h hx hlost (fun _ => hab)
/-- Two books. -/
structure Two (w wr : World) (bA bB : Nat) (vA : Value) (BA : Bk) (vB : Value) (BB : Bk) : Prop where
  A : BookAt wr bA vA BA
  B : BookAt wr bB vB BB
  lo : w.heap.size ≤ bA ∧ bA < bB
  apart : ∀ k, vA.ownBlock = some k → k ≠ bB ∧ vB.ownBlock ≠ some k
  bel : Below w.heap.size w wr
theorem Two.below {w wr w' : World} {bA bB : Nat} {vA : Value} {BA : Bk} {vB : Value} {BB : Bk} (h : Two w wr bA bB vA BA vB BB) (hb : Below wr.heap.size wr w') : Two w w' bA bB vA BA vB BB :=
  ⟨h.A.below hb, h.B.below hb, h.lo, h.apart, h.bel.trans (hb.mono h.bel.size)⟩
theorem Two.putB {w wr w' : World} {bA bB : Nat} {vA : Value} {BA : Bk} {vB vB' : Value} {BB BB' : Bk} (h : Two w wr bA bB vA BA vB BB) (hk : BookAt w' bB vB' BB') (hm : Moved wr w' bB vB vB' BB.L.length BB'.L.length) : Two w w' bA bB vA BA vB' BB' :=
  ⟨h.A.kept hm (by have := h.lo; omega) (fun e => by have := h.B.own _ e; have := h.lo; omega) (fun k hk => h.apart k hk), hk, h.lo,
    fun k hk => ⟨(h.apart k hk).1, fun e => by rcases hm.own k e with h1 | h1; exact (h.apart k hk).2 h1; have := h.A.own k hk; omega⟩,
    h.bel.trans (hm.bel (by have := h.lo; omega) h.B.lt (fun j hj => (h.B.own j hj).2.2))⟩
theorem Two.putA {w wr w' : World} {bA bB : Nat} {vA vA' : Value} {BA BA' : Bk} {vB : Value} {BB : Bk} (h : Two w wr bA bB vA BA vB BB) (hk : BookAt w' bA vA' BA') (hm : Moved wr w' bA vA vA' BA.L.length BA'.L.length) : Two w w' bA bB vA' BA' vB BB :=
  ⟨hk, h.B.kept hm (by have := h.lo; omega) (fun e => (h.apart _ e).1 rfl) (fun k hk => ⟨fun e => by have := h.B.own k hk; have := h.lo; omega, fun e => (h.apart k e).2 hk⟩), h.lo,
    fun k hk => by
      rcases hm.own k hk with h1 | h1
      · exact h.apart k h1
      · exact ⟨fun e => by have := h.B.lt; omega, fun e => by have := h.B.own k e; omega⟩,
    h.bel.trans (hm.bel (by have := h.lo; omega) h.A.lt (fun j hj => (h.A.own j hj).2.2))⟩
theorem two_new (n : Int) (w : World) : Two w ((w.alloc (.cells #[.slice none 0 0, .int .i64 (roomM n), .int .i64 0] 50)).alloc (.cells #[.slice none 0 0, .int .i64 (roomM n), .int .i64 0] 50)) w.heap.size (w.heap.size + 1) (.slice none 0 0) (Bk.new n) (.slice none 0 0) (Bk.new n) := by
  refine ⟨(bookAt_new n w).below ((Below.refl _ _).alloc (Nat.le_refl _) _), ?_, ⟨Nat.le_refl _, by omega⟩, fun k h => by simp [Value.ownBlock] at h, ((Below.refl _ w).alloc (Nat.le_refl _) _).alloc (by simp) _⟩
  have := bookAt_new n (w.alloc (.cells #[.slice none 0 0, .int .i64 (roomM n), .int .i64 0] 50))
  simpa using this
theorem evs_part {w : World} {b off : Nat} {L : List Ev} (h : Evs w (some ⟨b, off, none⟩) L) (k : Nat) (hk : k ≤ L.length) : Evs w (some ⟨b, off, none⟩) (L.take k) ∧ Evs w (some ⟨b, off + k * 3, none⟩) (L.drop k) := by
  constructor
  · have := RowK.part h rfl 0 k (by omega)
    simp only [Nat.zero_mul, Nat.add_zero, Nat.zero_add] at this
    have e : (L.take k).length = k := by simp; omega
    unfold Evs
    rw [e]
    exact RowK.congr this fun i hi j hj => by unfold evV; rw [List.getElem?_take, if_pos hi]
  · have := RowK.part h rfl k (L.length - k) (by omega)
    have e : (L.drop k).length = L.length - k := by simp
    unfold Evs
    rw [e]
    exact RowK.congr this fun i hi j hj => by unfold evV; rw [List.getElem?_drop]
theorem Two.srcA {w wr : World} {bA bB : Nat} {vA : Value} {BA : Bk} {vB : Value} {BB : Bk} (h : Two w wr bA bB vA BA vB BB) {b0 o : Nat} (hb : b0 < w.heap.size) : ∀ ad, some (⟨b0, o, none⟩ : Addr) = some ad → ad.block ≠ bA ∧ vA.ownBlock ≠ some ad.block := fun ad e => by
  cases e
  have := h.lo
  exact ⟨by simp; omega, fun e => by have h2 := h.A.own b0 e; omega⟩
theorem Two.srcB {w wr : World} {bA bB : Nat} {vA : Value} {BA : Bk} {vB : Value} {BB : Bk} (h : Two w wr bA bB vA BA vB BB) {b0 o : Nat} (hb : b0 < w.heap.size) : ∀ ad, some (⟨b0, o, none⟩ : Addr) = some ad → ad.block ≠ bB ∧ vB.ownBlock ≠ some ad.block := fun ad e => by
  cases e
  have := h.lo
  exact ⟨by simp; omega, fun e => by have h2 := h.B.own b0 e; omega⟩
theorem same_eq (a1 : Option Addr) (m1 c1 : Nat) (a2 : Option Addr) (m2 c2 : Nat) (L : List Ev) (w : World) (h1 : m1 = L.length) (h2 : m2 = L.length) (hL : Evs w a1 L) (hM : Evs w a2 L) (hl : L.length ≤ 1000000000) :
    Calls Try.prog 12 #[.slice a1 m1 c1, .slice a2 m2 c2] w fun e w' => e = .returned (.bool true) ∧ Below w.heap.size w w' := by
  subst h1; subst h2
  simpa using same_any a1 c1 a2 c2 L L w hL hM hl hl
theorem Two.src {w wr : World} {bA bB : Nat} {vA : Value} {BA : Bk} {vB : Value} {BB : Bk} (h : Two w wr bA bB vA BA vB BB) {a : Option Addr} (ha : ∀ ad, a = some ad → ad.block < w.heap.size) : ∀ ad, a = some ad → ad.block ≠ bA ∧ vA.ownBlock ≠ some ad.block := fun ad e => by
  have hb := ha ad e
  have := h.lo
  exact ⟨by omega, fun e => by have h2 := h.A.own _ e; omega⟩
/-- The address of l[k:]. -/
def cutA (a : Option Addr) (c k : Nat) : Option Addr := if c = k then a else a.map (fun x => x.add (k * 3))
theorem cutA_ev {w : World} {a : Option Addr} {L : List Ev} {c : Nat} (h : Evs w a L) (hh : Hdr w a c) (hc : L.length ≤ c) (k : Nat) (hk : k ≤ L.length) :
    Evs w a (L.take k) ∧ Evs w (cutA a c k) (L.drop k) ∧ (∀ ad, a = some ad → ad.block < w.heap.size) ∧ (∀ ad, cutA a c k = some ad → ad.block < w.heap.size) := by
  rcases hh with ⟨rfl, rfl⟩ | ⟨b, off, rfl, hb⟩
  · have : L = [] := List.eq_nil_of_length_eq_zero (by omega)
    subst this
    simp at hk; subst hk
    exact ⟨h, by simpa [cutA] using h, fun ad e => (by cases e), fun ad e => by simp [cutA] at e⟩
  · obtain ⟨h1, h2⟩ := evs_part h k hk
    refine ⟨h1, ?_, fun ad e => by cases e; exact hb, fun ad e => ?_⟩
    · unfold cutA
      by_cases hck : c = k
      · rw [if_pos hck]
        have : L.drop k = [] := by simp; omega
        rw [this]; exact .inl rfl
      · rw [if_neg hck, Option.map_some, Addr.add_lit]; exact h2
    · unfold cutA at e
      split at e
      · cases e; exact hb
      · rw [Option.map_some, Addr.add_lit] at e; cases e; exact hb
set_option maxRecDepth 100000 in
set_option maxHeartbeats 1000000 in
theorem bookLast_main (n : Int) (a0 a2 a3 : Option Addr) (cap0 kN R d : Nat) (M : Int) (L : List Ev) (cut : Int) (w : World) (hlc : L.length ≤ cap0) (hcm : cap0 ≤ 9223372036854775807) (hlen : L.length ≤ 600)
    (hk : kN ≤ L.length) (HK : Hid (cut % ((L.length : Int) + 1) = kN)) (HE : Hid (Evs w a0 L)) (HE1 : Hid (Evs w a0 (L.take kN))) (HE2 : Hid (Evs w a2 (L.drop kN)))
    (HA1 : Hid (∀ ad, a0 = some ad → ad.block < w.heap.size)) (HA2 : Hid (∀ ad, a2 = some ad → ad.block < w.heap.size))
    (e2 : (if cap0 = kN then a0 else Option.map (fun x => x.add (kN * 3)) a0) = a2) (e3 : (if cap0 = d then a0 else Option.map (fun x => x.add (d * 3)) a0) = a3)
    (hR1 : 1 ≤ R) (hR2 : R ≤ 256) (hd : d ≤ L.length) (eM : (if 256 < n then 256 else n) = M) (eR : (if 1 < M then M else 1) = (R : Int)) (eD : (if R < L.length then (L.length : Int) - (R : Int) else 0) = (d : Int))
    (HM3 : Hid (Evs w a3 (((Bk.new n).puts L).L))) (HLL : Hid (((Bk.new n).puts L).L.length = L.length - d)) (HLO : Hid (((Bk.new n).puts L).lost = (d : Int))) :
    Calls Try.prog 4 #[.int .i64 n, .slice a0 L.length cap0, .int .i64 cut] w fun e w' => e = .returned (.bool true) ∧ Below w.heap.size w w' := by
  have HT := Lib.hid (two_new n w)
  go_enter Try.func4, Try.ntmps4
  go_wp2_with (first
    | (go_at_call 6; refine (bnew_any _ _).mono ?_; rintro e w' ⟨rfl, rfl⟩)
    | (go_at_call 16; refine (place_any _ _ _ (by omega) (by omega)).mono ?_; rintro e w' ⟨rfl, rfl⟩; rw [HK.out])
    | (go_at_call 9; first
       | (refine (bput_len _ _ (Bk.new n) _ _ _ (L.take kN) _ (by simp; omega) HT.out.A (HE1.out.below HT.out.bel (Nat.le_refl _)) (by simp [Bk.new]; omega) (HT.out.src HA1.out)).mono ?_; rintro e w' ⟨rfl, v1, hk1, hm1⟩; have HT1 := Lib.hid (HT.out.putA hk1 hm1); clear hk1 hm1 HT)
       | (refine (bput_len _ _ _ _ _ _ (L.drop kN) _ (by simp) HT1.out.A (HE2.out.below HT1.out.bel (Nat.le_refl _)) (by have := (Bk.new n).puts_lost (L.take kN); simp [Bk.new] at this ⊢; omega) (HT1.out.src HA2.out)).mono ?_; rintro e w' ⟨rfl, v2, hk2, hm2⟩; have HT2 := Lib.hid (HT1.out.putA hk2 hm2); clear hk2 hm2 HT1)))
  have HT3 : Hid (Two w _ w.heap.size (w.heap.size + 1) v2 ((Bk.new n).puts L) (.slice none 0 0) (Bk.new n)) := Lib.hid (by have := HT2.out; rw [← Bk.puts_append, List.take_append_drop] at this; exact this)
  clear HT2 HE1 HE2 e2
  go_loopw [10] (fun p wr => ∃ k : Nat, p = .int .i64 k ∧ k ≤ L.length ∧ ∃ vB, Two w wr w.heap.size (w.heap.size + 1) v2 ((Bk.new n).puts L) vB ((Bk.new n).puts (L.take k))) (fun p _ => L.length - (intOf p).toNat)
  case atStart => exact ⟨0, rfl, by omega, _, by simpa [Bk.puts] using HT3.out⟩
  case round =>
    clear HT3
    obtain ⟨k, rfl, hk', vB, hTw⟩ := hrel
    by_cases hlt : k < L.length
    · clear e3 eM eR eD HM3 HLL HLO
      have g1 : L[k]? = some L[k] := List.getElem?_eq_getElem hlt
      have HP := Lib.hid ((Bk.new n).puts_snoc L g1)
      have hlo : ((Bk.new n).puts (L.take k)).lost ≤ 600 := by have := (Bk.new n).puts_lost (L.take k); simp [Bk.new] at this ⊢; omega
      obtain ⟨b1, o1, rfl, hb1, x1, x2, x3⟩ := (HE.out.below hTw.bel (Nat.le_refl _)).at g1
      clear HE
      generalize L[k] = x at *
      clear g1
      have HTw := Lib.hid (hTw.below ((Below.refl _ _).alloc (Nat.le_refl _) (.cells #[.int .i64 x.1, .int .i64 x.2.1, .int .i64 x.2.2] 34)))
      have HEn : Hid (Evs (wr.alloc (.cells #[.int .i64 x.1, .int .i64 x.2.1, .int .i64 x.2.2] 34)) (some ⟨wr.heap.size, 0, none⟩) [x]) := Lib.hid (evs_new wr [x] (by simp [evC]))
      have HN : Hid (∀ ad, some (⟨wr.heap.size, 0, none⟩ : Addr) = some ad → ad.block ≠ w.heap.size + 1 ∧ vB.ownBlock ≠ some ad.block) := Lib.hid fun ad e => by
        cases e
        have h1 := hTw.B.lt
        exact ⟨by simp; omega, fun e => by have h2 := hTw.B.own wr.heap.size e; omega⟩
      clear hTw
      go_wp2_with (go_at_call 9; refine (bput_len _ _ _ _ _ _ [x] _ rfl HTw.out.B HEn.out (by simp; omega) HN.out).mono ?_; rintro e w' ⟨rfl, v5, hk5, hm5⟩; have HT5 := Lib.hid (HTw.out.putB hk5 hm5); clear hk5 hm5)
      go_roundw
      case rel => exact ⟨k + 1, by go_num, by omega, v5, by rw [HP.out]; exact HT5.out⟩
      case measure => simp [intOf]; omega
    · have hkl : k = L.length := by omega
      have HF : Hid (Two w wr w.heap.size (w.heap.size + 1) v2 ((Bk.new n).puts L) vB ((Bk.new n).puts L)) := Lib.hid (by rw [hkl, List.take_length] at hTw; exact hTw)
      have hbw := hTw.bel
      haveI : LeSize w.heap.size wr := ⟨hbw.size⟩
      subst hkl
      clear hTw HE HA1 HA2
      generalize hBF : (Bk.new n).puts L = BF at *
      clear hBF
      generalize hlL : L.length = lL at *
      have HF1 := HF
      have HF2 := HF
      have HF3 := HF
      have HF4 := HF
      go_wp2_with (first
        | (go_at_call 13; first
           | (have HX := HF1; clear HF1; refine (lall_up w.heap.size _ _ _ (HX.out.below (by (repeat' (first | (with_reducible exact Below.refl _ _) | (with_reducible assumption) | (with_reducible refine Below.setCell ?_ ?_ _) | (with_reducible refine Below.alloc ?_ ?_ _) | (with_reducible refine Below.drew ?_) | (with_reducible refine Up.base _ ?_ ?_) | (with_reducible exact LeSize.out) | exact LeSize.out | exact Nat.le_add_right_of_le LeSize.out | exact Nat.le_add_right_of_le (Nat.le_add_right_of_le LeSize.out) | (with_reducible exact Nat.le_refl _) | (simp; done) | (simp; omega))))).A).mono ?_; rintro e w' ⟨a4, c4, u1, rfl, rfl, he1, hl1⟩; clear HX)
           | (refine (lall_up (w.heap.size + 1) _ _ _ (HF.out.below (by (repeat' (first | (with_reducible exact Below.refl _ _) | (with_reducible assumption) | (with_reducible refine Below.setCell ?_ ?_ _) | (with_reducible refine Below.alloc ?_ ?_ _) | (with_reducible refine Below.drew ?_) | (with_reducible refine Up.base _ ?_ ?_) | (with_reducible exact LeSize.out) | exact LeSize.out | exact Nat.le_add_right_of_le LeSize.out | exact Nat.le_add_right_of_le (Nat.le_add_right_of_le LeSize.out) | (with_reducible exact Nat.le_refl _) | (simp; done) | (simp; omega))))).B).mono ?_; rintro e w' ⟨a5, c5, u2, rfl, rfl, he2, hl2⟩))
        | (go_at_call 12; first
           | (have HX := he1; clear he1; refine (Up.run (same_eq _ _ _ _ _ _ BF.L _ (by first | rfl | (rw [HLL.out]; done) | (rw [HLL.out]; omega)) (by first | rfl | (rw [HLL.out]; done) | (rw [HLL.out]; omega)) HX (HM3.out.below (by (repeat' (first | (with_reducible exact Below.refl _ _) | (with_reducible assumption) | (with_reducible refine Below.setCell ?_ ?_ _) | (with_reducible refine Below.alloc ?_ ?_ _) | (with_reducible refine Below.drew ?_) | (with_reducible refine Up.base _ ?_ ?_) | (with_reducible exact LeSize.out) | exact LeSize.out | exact Nat.le_add_right_of_le LeSize.out | exact Nat.le_add_right_of_le (Nat.le_add_right_of_le LeSize.out) | (with_reducible exact Nat.le_refl _) | (simp; done) | (simp; omega)))) (Nat.le_refl _)) (by omega))).mono ?_; rintro e w' ⟨rfl, u4, rfl⟩; clear HX)
           | (have HX := he2; clear he2; refine (Up.run (same_eq _ _ _ _ _ _ BF.L _ (by first | rfl | (rw [HLL.out]; done) | (rw [HLL.out]; omega)) (by first | rfl | (rw [HLL.out]; done) | (rw [HLL.out]; omega)) HX (HM3.out.below (by (repeat' (first | (with_reducible exact Below.refl _ _) | (with_reducible assumption) | (with_reducible refine Below.setCell ?_ ?_ _) | (with_reducible refine Below.alloc ?_ ?_ _) | (with_reducible refine Below.drew ?_) | (with_reducible refine Up.base _ ?_ ?_) | (with_reducible exact LeSize.out) | exact LeSize.out | exact Nat.le_add_right_of_le LeSize.out | exact Nat.le_add_right_of_le (Nat.le_add_right_of_le LeSize.out) | (with_reducible exact Nat.le_refl _) | (simp; done) | (simp; omega)))) (Nat.le_refl _)) (by omega))).mono ?_; rintro e w' ⟨rfl, u3, rfl⟩; clear HX))
        | (go_at_call 15; first
           | (have HX := HF2; clear HF2; refine (blost_any w.heap.size _ _ _ (HX.out.below (by (repeat' (first | (with_reducible exact Below.refl _ _) | (with_reducible assumption) | (with_reducible refine Below.setCell ?_ ?_ _) | (with_reducible refine Below.alloc ?_ ?_ _) | (with_reducible refine Below.drew ?_) | (with_reducible refine Up.base _ ?_ ?_) | (with_reducible exact LeSize.out) | exact LeSize.out | exact Nat.le_add_right_of_le LeSize.out | exact Nat.le_add_right_of_le (Nat.le_add_right_of_le LeSize.out) | (with_reducible exact Nat.le_refl _) | (simp; done) | (simp; omega))))).A).mono ?_; rintro e w' ⟨rfl, rfl⟩; rw [HLO.out]; clear HX)
           | (have HX := HF3; clear HF3; refine (blost_any (w.heap.size + 1) _ _ _ (HX.out.below (by (repeat' (first | (with_reducible exact Below.refl _ _) | (with_reducible assumption) | (with_reducible refine Below.setCell ?_ ?_ _) | (with_reducible refine Below.alloc ?_ ?_ _) | (with_reducible refine Below.drew ?_) | (with_reducible refine Up.base _ ?_ ?_) | (with_reducible exact LeSize.out) | exact LeSize.out | exact Nat.le_add_right_of_le LeSize.out | exact Nat.le_add_right_of_le (Nat.le_add_right_of_le LeSize.out) | (with_reducible exact Nat.le_refl _) | (simp; done) | (simp; omega))))).B).mono ?_; rintro e w' ⟨rfl, rfl⟩; rw [HLO.out]; clear HX)
           | (have HX := HF4; clear HF4; refine (blost_any w.heap.size _ _ _ (HX.out.below (by (repeat' (first | (with_reducible exact Below.refl _ _) | (with_reducible assumption) | (with_reducible refine Below.setCell ?_ ?_ _) | (with_reducible refine Below.alloc ?_ ?_ _) | (with_reducible refine Below.drew ?_) | (with_reducible refine Up.base _ ?_ ?_) | (with_reducible exact LeSize.out) | exact LeSize.out | exact Nat.le_add_right_of_le LeSize.out | exact Nat.le_add_right_of_le (Nat.le_add_right_of_le LeSize.out) | (with_reducible exact Nat.le_refl _) | (simp; done) | (simp; omega))))).A).mono ?_; rintro e w' ⟨rfl, rfl⟩; rw [HLO.out]; clear HX))
        | (go_at_call 14; refine (blen_any _ _ _ _ (HF.out.below (by (repeat' (first | (with_reducible exact Below.refl _ _) | (with_reducible assumption) | (with_reducible refine Below.setCell ?_ ?_ _) | (with_reducible refine Below.alloc ?_ ?_ _) | (with_reducible refine Below.drew ?_) | (with_reducible refine Up.base _ ?_ ?_) | (with_reducible exact LeSize.out) | exact LeSize.out | exact Nat.le_add_right_of_le LeSize.out | exact Nat.le_add_right_of_le (Nat.le_add_right_of_le LeSize.out) | (with_reducible exact Nat.le_refl _) | (simp; done) | (simp; omega))))).A).mono ?_; rintro e w' ⟨rfl, rfl⟩; rw [HLL.out])
        | (go_at_call 8; refine (Up.run (awakeB_any _)).mono ?_; rintro e w' ⟨rfl, u, rfl⟩))
      go_returns
      exact ⟨rfl, by (repeat' (first | (with_reducible exact Below.refl _ _) | (with_reducible assumption) | (with_reducible refine Below.setCell ?_ ?_ _) | (with_reducible refine Below.alloc ?_ ?_ _) | (with_reducible refine Below.drew ?_) | (with_reducible refine Up.base _ ?_ ?_) | (with_reducible exact LeSize.out) | exact LeSize.out | exact Nat.le_add_right_of_le LeSize.out | exact Nat.le_add_right_of_le (Nat.le_add_right_of_le LeSize.out) | (with_reducible exact Nat.le_refl _) | (simp; done) | (simp; omega)))⟩
theorem bookLast_walk (n : Int) (a0 : Option Addr) (cap0 : Nat) (L : List Ev) (cut : Int) (w : World) (_ : InKind .i64 n) (hlc : L.length ≤ cap0) (hcm : cap0 ≤ 9223372036854775807) (hh : Hdr w a0 cap0) (hE : Evs w a0 L) (_ : InKind .i64 cut) :
    Calls Try.prog 4 #[.int .i64 n, .slice a0 L.length cap0, .int .i64 cut] w fun e w' => e = .returned (.bool true) ∧ Below w.heap.size w w' := by
  by_cases hlen : L.length ≤ 600
  · obtain ⟨kN, hkN, hk⟩ : ∃ kN : Nat, cut % ((L.length : Int) + 1) = kN ∧ kN ≤ L.length := by
      have h1 := Int.emod_nonneg cut (show (L.length : Int) + 1 ≠ 0 by omega)
      have h2 := Int.emod_lt_of_pos cut (show 0 < (L.length : Int) + 1 by omega)
      exact ⟨(cut % ((L.length : Int) + 1)).toNat, by omega, by omega⟩
    have hrm : 1 ≤ roomM n ∧ roomM n ≤ 256 := (Bk.new_ok n).room
    obtain ⟨k1, k2, k3, k4⟩ := cutA_ev hE hh hlc kN hk
    obtain ⟨_, d2, _, _⟩ := cutA_ev hE hh hlc (L.length - (roomM n).toNat) (by omega)
    obtain ⟨e1, e2⟩ := puts_new n L
    refine bookLast_main n a0 (cutA a0 cap0 kN) (cutA a0 cap0 (L.length - (roomM n).toNat)) cap0 kN (roomM n).toNat (L.length - (roomM n).toNat) (if 256 < n then 256 else n) L cut w hlc hcm hlen hk (Lib.hid hkN) (Lib.hid hE) (Lib.hid k1) (Lib.hid k2) (Lib.hid k3) (Lib.hid k4) rfl rfl (by omega) (by omega) (by omega) rfl ?_ ?_ (Lib.hid ?_) (Lib.hid ?_) (Lib.hid ?_)
    · unfold roomM
      split <;> split <;> omega
    · split <;> omega
    · rw [e1]; exact d2
    · rw [e1]; simp
    · rw [e2]
  · have hlen2 : 600 < L.length := by omega
    clear hlen
    go_enter Try.func4, Try.ntmps4
    go_wp2_with (first
    | (go_at_call 6; refine (bnew_any _ _).mono ?_; rintro e w' ⟨rfl, rfl⟩)
    | (go_at_call 8; refine (Up.run (awakeB_any _)).mono ?_; rintro e w' ⟨rfl, u, rfl⟩))
    go_returns
    exact ⟨rfl, by (repeat' (first | (with_reducible exact Below.refl _ _) | (with_reducible assumption) | (with_reducible refine Below.setCell ?_ ?_ _) | (with_reducible refine Below.alloc ?_ ?_ _) | (with_reducible refine Below.drew ?_) | (with_reducible refine Up.base _ ?_ ?_) | (with_reducible exact LeSize.out) | exact LeSize.out | exact Nat.le_add_right_of_le LeSize.out | exact Nat.le_add_right_of_le (Nat.le_add_right_of_le LeSize.out) | (with_reducible exact Nat.le_refl _) | (simp; done) | (simp; omega)))⟩
set_option maxRecDepth 100000 in
theorem BookLast_lifted (os : Os) (started : os.Started) (H : Type) (enc : TypeId × Value → H) :
    ReturnsInHanded {} Try.checked os 4 .any (Rows.bookLastSpec.pre6 enc Try.prog Try.f4 Rows.bookLastRow.domain false) (Rows.bookLastSpec.post enc Try.prog Try.f4 false true false false) := by
  refine returnsInHanded_of_change (C := Try.checked) own started (by kernel_rfl) Try.func4
    (ChangeSpec.witness6 (enc := enc) (C := Try.checked) false ⟨#[], #[.int .i64 0, .slice none 0 0, .int .i64 0], []⟩ 8 (by kernel_rfl) (by kernel_rfl) (by kernel_rfl) (by kernel_rfl)) ?_
  intro W base args ds gs before hval0 hW hcnd _
  have hval : ∀ (j : Nat) t v, Try.f4.params[j]? = some t → args[j]? = some v → Value.okWide Try.prog W .any base t v := hval0
  have hW' := hW
  obtain ⟨p, q, hA0, hV, rfl, hfz, hnd⟩ := hW
  have hA : DataW.TrodAll enc Try.prog W 0 (fun _ => true) true Try.f4.params.toList args.toList ds p := hA0
  rw [Try.params4] at hA hval
  obtain ⟨v0, vs0, d0, ds0, p0, q0, hargs, rfl, rfl, h0, r0⟩ := trodAll_cons hA
  obtain ⟨v1, vs1, d1, ds1, p1, q1, rfl, rfl, rfl, h1, r1⟩ := trodAll_cons r0
  obtain ⟨v2, vs2, d2, ds2, p2, q2, rfl, rfl, rfl, h2, r2⟩ := trodAll_cons r1
  obtain ⟨rfl, rfl, rfl⟩ := trodAll_nil r2
  obtain rfl : args = #[v0, v1, v2] := by cases args; simp_all
  obtain ⟨rfl, rfl⟩ := trodVars_none hV
  have k0 := h0
  have lt0 : ∀ x ∈ p0, x.block < W.heap.size := by obtain ⟨m, hm⟩ := k0; exact DataW.trod_lt m _ _ _ hm
  have k1 := h1
  have lt1 : ∀ x ∈ p1, x.block < W.heap.size := by obtain ⟨m, hm⟩ := k1; exact DataW.trod_lt m _ _ _ hm
  have k2 := h2
  have lt2 : ∀ x ∈ p2, x.block < W.heap.size := by obtain ⟨m, hm⟩ := k2; exact DataW.trod_lt m _ _ _ hm
  obtain ⟨a0, rfl, w0⟩ := open_int1 Try.underlying3 (hval 0 3 v0 rfl rfl)
  obtain ⟨x1_0, x1_1, x1_2, rfl, y1_0, y1_1, y1_2, y1_3⟩ := open_evs (hval 1 28 v1 rfl rfl) k1
  obtain ⟨a2, rfl, w2⟩ := open_int1 Try.underlying3 (hval 2 3 v2 rfl rfl)
  clear hA0 hval0
  refine (bookLast_walk a0 x1_0 x1_1 x1_2 a2 W w0 y1_0 y1_1 y1_2 y1_3 w2).mono fun e W' ⟨he, bel⟩ => ?_
  subst he
  exact ⟨_, rfl, _, _, _, [], _, [], hW', trodAll_mk1 (shut_bool Try.underlying4 _), (trodAll_cons_mk (Below.trod laidOut (by kernel_rfl) (of_decide_eq_true (by kernel_rfl)) k0 bel lt0) (trodAll_cons_mk (Below.trod laidOut (by kernel_rfl) (of_decide_eq_true (by kernel_rfl)) k1 bel lt1) (trodAll_cons_mk (Below.trod laidOut (by kernel_rfl) (of_decide_eq_true (by kernel_rfl)) k2 bel lt2) trodAll_mk0))), rfl, bel.frame _, fun h => by cases h⟩

theorem BookLast_over : Rows.bookLastRow.holds Try.pinned (OpenSpec.ofChange Rows.bookLastSpec) :=
  OpenClaim.holds_of_wide 4 Try.f4 rfl rfl rfl rfl rfl rfl rfl ⟨rfl, rfl, rfl, rfl, rfl⟩ rfl rfl rfl rfl rfl (by kernel_rfl) Try.func4 (by kernel_rfl)
    (of_decide_eq_true (by kernel_rfl)) (by unfold Func.isWrapper; first | (rw [if_pos (by decide +kernel)]; kernel_rfl) | (rw [if_neg (by decide +kernel)]; exact ⟨rfl, rfl⟩))
    (fun os started H enc _ => BookLast_lifted os started H enc)

/-- The given statement. -/
theorem BookLast_holds : Rows.BookLastSaid := BookLast_over
#print axioms BookLast_holds
end Go.Proofs.Ytpmnhieehkjnmaa
