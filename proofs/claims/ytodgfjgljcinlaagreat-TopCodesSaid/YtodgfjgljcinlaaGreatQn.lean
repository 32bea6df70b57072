/- Part Qn of the proof: CodB, CodC, CodD, CodE. -/
import Derived.Test.YtodgfjgljcinlaaGreatQf
import Derived.Test.YtodgfjgljcinlaaGreatQe
import Derived.Test.YtodgfjgljcinlaaGreatQc
namespace Go.Proofs.YtodgfjgljcinlaaGreat
set_option maxHeartbeats 8000000
set_option maxRecDepth 100000
set_option linter.unusedVariables false
section
open Go.RowKit
attribute [local go_sem] IsBlk.cell IsBlk.frozen
def g8 : Value → Nat
 | .float .f64 b => b
 | _ => 0
theorem qa (W : World) (cs : Array Value) (t : TypeId) (h : cs.all (fun v => match v with | .bool _ => true | _ => false) = true) : abS (W.alloc (.cells cs t)) (some ⟨W.heap.size, 0, none⟩) (cs.toList.map d9) := by
 refine .inr ⟨W.heap.size, 0, rfl, by simp, fun i hi => ?_⟩
 have hi' : i < cs.size := by simpa using hi
 rw [World.cell?_alloc_at _ _ _ _ rfl, Nat.zero_add, Array.getElem?_eq_getElem hi']
 have := Array.all_eq_true'.1 h cs[i] (Array.getElem_mem hi')
 have e : (cs.toList.map d9).getD i false = d9 cs[i] := by simp [List.getD, hi']
 show some cs[i] = some (.bool ((cs.toList.map d9).getD i false))
 rw [e]
 generalize cs[i] = v at this ⊢
 match v, this with
 | .bool b, _ => rfl
theorem oL (W : World) (cs : Array Value) (t : TypeId) (h : cs.all (fun v => match v with | .float .f64 _ => true | _ => false) = true) : jJ (W.alloc (.cells cs t)) (some ⟨W.heap.size, 0, none⟩) (cs.toList.map g8) := by
 refine .inr ⟨W.heap.size, 0, rfl, by simp, fun i hi => ?_⟩
 have hi' : i < cs.size := by simpa using hi
 rw [World.cell?_alloc_at _ _ _ _ rfl, Nat.zero_add, Array.getElem?_eq_getElem hi']
 have := Array.all_eq_true'.1 h cs[i] (Array.getElem_mem hi')
 have e : (cs.toList.map g8).getD i 0 = g8 cs[i] := by simp [List.getD, hi']
 show some cs[i] = some (.float .f64 ((cs.toList.map g8).getD i 0))
 rw [e]
 generalize cs[i] = v at this ⊢
 match v, this with
 | .float .f64 b, _ => rfl
theorem uV (WB n : Nat) (cs : Array Value) (zs : List Int) (W : World) (hs : WrS WB W zs) (hn : n = cs.size) (hl : zs.length ≤ 80000) (hc : cs.size ≤ 100) (h : cs.all (fun v => match v with | .bool _ => true | _ => false) = true) :
  Calls Tryz.prog 51 #[.pointer (some ⟨WB, 0, none⟩), .slice (some ⟨W.heap.size, 0, none⟩) n n] (W.alloc (.cells cs 4)) fun e w' => e = .returned (.tuple #[]) ∧ WrS WB w' (zs ++ ((cs.toList.map d9).map fF).flatMap (an 1)) ∧ Kp WB W w' := by
 subst hn
 have hlt := hs.lt
 have := rW WB zs (cs.toList.map d9) (some ⟨W.heap.size, 0, none⟩) cs.size (W.alloc (.cells cs 4)) (by simp; omega) (hs.alloc _) (qa W cs _ h) (fun b off e _ => by cases e; omega)
 rw [List.length_map, Array.length_toList] at this
 exact this.mono fun e w' ⟨h1, h2, h3⟩ => ⟨h1, h2, h3.alloc _ hlt⟩
theorem oP {l : List Nat} {k : Nat} (h : k < l.length) (f : Nat → List Int) : (l.take (k + 1)).flatMap f = (l.take k).flatMap f ++ f (l.getD k 0) := by
 rw [List.take_succ_eq_append_getElem h, List.flatMap_append]
 simp [List.getD, h]
theorem nG (WB : Nat) (zs : List Int) (l : List Nat) (la : Option Addr) (lc : Nat) (W : World) (hl : zs.length + l.length * 8 ≤ 100000) (hs : WrS WB W zs) (hi : jJ W la l) (hne : ∀ b off, la = some ⟨b, off, none⟩ → 0 < l.length → b ≠ WB) :
  Calls Tryz.prog 53 #[.pointer (some ⟨WB, 0, none⟩), .slice la l.length lc] W fun e w' => e = .returned (.tuple #[]) ∧ WrS WB w' (zs ++ l.flatMap eO) ∧ Kp WB W w' := by
 have HI := Lib.hid hi
 have HNE := Lib.hid hne
 have HS := Lib.hid hs
 have hWB := hs.lt
 clear hi hne hs
 go_enter Tryz.func53, Tryz.ntmps53
 go_wp2
 go_loopw [8] (fun i wr => ∃ k : Nat, k ≤ l.length ∧ i = .int .i64 k ∧ WrS WB wr (zs ++ (l.take k).flatMap eO) ∧ Kp WB W wr) (fun i _ => l.length - (intOf i).toNat)
 case atStart => exact ⟨0, Nat.zero_le _, rfl, by simpa using HS.out, Kp.refl _ _⟩
 case round =>
  obtain ⟨k, hk, rfl, hws, hkp⟩ := hrel
  by_cases hlt : k < l.length
  ·have hkI : (k : Int) < l.length := by omega
   obtain ⟨b, off, rfl, hbl, hc⟩ := HI.out.cell (by omega)
   have hcell : wr.cell? ⟨b, off + k, none⟩ = some (.float .f64 (l.getD k 0)) := by
    have h1 := hc k hlt
    unfold World.cell? at h1 ⊢
    rw [hkp.same b (HNE.out _ _ rfl (by omega)) hbl]; exact h1
   have HFT := Lib.hid (oP hlt eO)
   generalize l.getD k 0 = x at *
   have hlen : (zs ++ (l.take k).flatMap eO).length ≤ 100000 := by
    rw [List.length_append, yt eO 8 (fun x => aA 8 _), List.length_take]
    have : min k l.length * 8 ≤ l.length * 8 := Nat.mul_le_mul (Nat.min_le_right _ _) (Nat.le_refl _)
    omega
   have HWS := Lib.hid hws
   have HKP := Lib.hid hkp
   obtain ⟨v, hwb, hown⟩ := hws.out
   obtain ⟨a, cap, rfl, hby⟩ := hown.opened
   haveI iW : IsBlk wr WB #[.slice a (zs ++ (l.take k).flatMap eO).length cap] 129 := ⟨hwb⟩
   have lW := iW.le
   have HBY := Lib.hid hby
   clear hwb hown hby hws hkp hc
   generalize hacc : zs ++ (l.take k).flatMap eO = acc at *
   have HACC := Lib.hid hacc
   clear hacc
   go_wp2_with (go_at_call 142; refine (qQ _ _ acc _ _ hlen HBY.out).mono ?_; rintro e w' ⟨v2, rfl, ho, hb⟩; obtain ⟨a2, cap2, rfl, hby2⟩ := ho.opened; obtain ⟨u2, rfl⟩ : ∃ u2 : Up wr, w' = u2.w := ⟨⟨w', hb⟩, rfl⟩)
   have hw2 := HWS.out.put u2.bel ho
   rw [List.length_append] at hw2
   have hk2 : Kp WB wr (u2.w.setCell ⟨WB, 0, none⟩ (.slice a2 (acc.length + (eO x).length) cap2)) := (Kp.of u2.bel HWS.out.lt).trans (Kp.set 0 _)
   go_roundw
   case rel => exact ⟨k + 1, by omega, by go_num, by rw [HFT.out, ← List.append_assoc, HACC.out]; exact hw2, HKP.out.trans hk2⟩
   case measure => simp [intOf]; omega
  ·obtain rfl : k = l.length := by omega
   rw [List.take_length] at hws
   go_wp2
   go_returns
   exact ⟨rfl, hws, hkp⟩
theorem oY (WB n : Nat) (cs : Array Value) (zs : List Int) (W : World) (hs : WrS WB W zs) (hn : n = cs.size) (hl : zs.length ≤ 80000) (hc : cs.size ≤ 100) (h : cs.all (fun v => match v with | .float .f64 _ => true | _ => false) = true) :
  Calls Tryz.prog 53 #[.pointer (some ⟨WB, 0, none⟩), .slice (some ⟨W.heap.size, 0, none⟩) n n] (W.alloc (.cells cs 56)) fun e w' => e = .returned (.tuple #[]) ∧ WrS WB w' (zs ++ (cs.toList.map g8).flatMap eO) ∧ Kp WB W w' := by
 subst hn
 have hlt := hs.lt
 have := nG WB zs (cs.toList.map g8) (some ⟨W.heap.size, 0, none⟩) cs.size (W.alloc (.cells cs 56)) (by simp; omega) (hs.alloc _) (oL W cs _ h) (fun b off e _ => by cases e; omega)
 rw [List.length_map, Array.length_toList] at this
 exact this.mono fun e w' ⟨h1, h2, h3⟩ => ⟨h1, h2, h3.alloc _ hlt⟩
theorem bQ.kp {WB : Nat} {W W' : World} {a : Option Addr} {l : List Int} (h : bQ W a l) (k : Kp WB W W') (hne : ∀ b off, a = some ⟨b, off, none⟩ → 0 < l.length → b ≠ WB) : bQ W' a l := by
 rcases h with h | ⟨b, off, rfl, hb, hc⟩
 ·exact .inl h
 ·by_cases h0 : l.length = 0
  ·exact .inl h0
  ·refine .inr ⟨b, off, rfl, Nat.lt_of_lt_of_le hb k.size, fun i hi => ?_⟩
   have h1 := hc i hi
   unfold World.cell? at h1 ⊢
   rw [k.same b (hne _ _ rfl (by omega)) hb]; exact h1
theorem sD (WB : Nat) (zs l : List Int) (la : Option Addr) (lc : Nat) (W : World) (hl : zs.length + l.length * 8 ≤ 90000) (hs : WrS WB W zs) (hi : bQ W la l) (hne : ∀ b off, la = some ⟨b, off, none⟩ → 0 < l.length → b ≠ WB) :
  Calls Tryz.prog 52 #[.pointer (some ⟨WB, 0, none⟩), .slice la l.length lc] W fun e w' => e = .returned (.tuple #[]) ∧ WrS WB w' (zs ++ ef l) ∧ Kp WB W w' := by
 have HI := Lib.hid hi
 have HNE := Lib.hid hne
 have HS := Lib.hid hs
 have HE : Hid ((zs ++ an 1 (l.length : Int)) ++ l.flatMap (an 1) = zs ++ ef l) := Lib.hid (by unfold ef; rw [List.append_assoc])
 have H1 : Hid (Calls Tryz.prog 50 #[.pointer (some ⟨WB, 0, none⟩), .int .i64 1, .slice (some ⟨W.heap.size, 0, none⟩) 1 1] (W.alloc (.cells #[.int .i64 (l.length : Int)] 3)) fun e w' => e = .returned (.tuple #[]) ∧ WrS WB w' (zs ++ an 1 (l.length : Int)) ∧ Kp WB W w') := Lib.hid (by
  have := gJ WB 1 1 #[.int .i64 (l.length : Int)] zs W hs (by omega) rfl (by omega) (by simp) (by simp)
  simpa [intOf] using this)
 have hpl : (zs ++ an 1 (l.length : Int)).length + l.length * 8 ≤ 100000 := by simp [aA]; omega
 clear hi hne hs
 go_enter Tryz.func52, Tryz.ntmps52
 go_wp2_with (first | (go_at_call 50; (with_reducible refine H1.out.mono ?_); rintro e w1 ⟨rfl, hs1, hk1⟩) | (go_at_call 50; refine (jz WB 1 _ l _ _ _ (by omega) hpl hs1 (HI.out.kp hk1 HNE.out) HNE.out).mono ?_; rintro e w2 ⟨rfl, hs2, hk2⟩))
 go_returns
 exact ⟨rfl, by rw [← HE.out]; exact hs2, hk1.trans hk2⟩
end
section
open Go.RowKit
attribute [local go_sem] IsBlk.cell IsBlk.frozen
theorem bS (WB size n b : Nat) (cs : Array Value) (zs : List Int) (W : World) (hs : WrS WB W zs) (hb : b = W.heap.size) (hs8 : size ≤ 8) (hn : n = cs.size) {L : Nat} (hl : zs.length ≤ L) (hL : L ≤ 80000) (hc : cs.size ≤ 100) (h : cs.all (fun v => match v with | .int .i64 _ => true | _ => false) = true) :
  Calls Tryz.prog 50 #[.pointer (some ⟨WB, 0, none⟩), .int .i64 size, .slice (some ⟨b, 0, none⟩) n n] (W.alloc (.cells cs 3)) fun e w' => e = .returned (.tuple #[]) ∧ ∃ zs', WrS WB w' zs' ∧ Hid (zs' = zs ++ (cs.toList.map intOf).flatMap (an size)) ∧ zs'.length ≤ L + n * size ∧ Kp WB W w' := by
 subst hb
 refine (gJ WB size n cs zs W hs hs8 hn (by omega) hc h).mono ?_
 rintro e w' ⟨h1, h2, h3⟩
 exact ⟨h1, _, h2, Lib.hid rfl, (by rw [List.length_append, yt _ size (fun x => aA size x), List.length_map, Array.length_toList (xs := cs), hn]; omega), h3⟩
theorem tM (WB n b : Nat) (cs : Array Value) (zs : List Int) (W : World) (hs : WrS WB W zs) (hb : b = W.heap.size) (hn : n = cs.size) {L : Nat} (hl : zs.length ≤ L) (hL : L ≤ 80000) (hc : cs.size ≤ 100) (h : cs.all (fun v => match v with | .bool _ => true | _ => false) = true) :
  Calls Tryz.prog 51 #[.pointer (some ⟨WB, 0, none⟩), .slice (some ⟨b, 0, none⟩) n n] (W.alloc (.cells cs 4)) fun e w' => e = .returned (.tuple #[]) ∧ ∃ zs', WrS WB w' zs' ∧ Hid (zs' = zs ++ ((cs.toList.map d9).map fF).flatMap (an 1)) ∧ zs'.length ≤ L + n ∧ Kp WB W w' := by
 subst hb
 refine (uV WB n cs zs W hs hn (by omega) hc h).mono ?_
 rintro e w' ⟨h1, h2, h3⟩
 exact ⟨h1, _, h2, Lib.hid rfl, (by rw [List.length_append, yt _ 1 (fun x => aA 1 x), List.length_map, List.length_map, Array.length_toList (xs := cs), hn, Nat.mul_one]; omega), h3⟩
theorem acQ (WB n b : Nat) (cs : Array Value) (zs : List Int) (W : World) (hs : WrS WB W zs) (hb : b = W.heap.size) (hn : n = cs.size) {L : Nat} (hl : zs.length ≤ L) (hL : L ≤ 80000) (hc : cs.size ≤ 100) (h : cs.all (fun v => match v with | .float .f64 _ => true | _ => false) = true) :
  Calls Tryz.prog 53 #[.pointer (some ⟨WB, 0, none⟩), .slice (some ⟨b, 0, none⟩) n n] (W.alloc (.cells cs 56)) fun e w' => e = .returned (.tuple #[]) ∧ ∃ zs', WrS WB w' zs' ∧ Hid (zs' = zs ++ (cs.toList.map g8).flatMap eO) ∧ zs'.length ≤ L + n * 8 ∧ Kp WB W w' := by
 subst hb
 refine (oY WB n cs zs W hs hn (by omega) hc h).mono ?_
 rintro e w' ⟨h1, h2, h3⟩
 exact ⟨h1, _, h2, Lib.hid rfl, (by rw [List.length_append, yt eO 8 (fun x => aA 8 _), List.length_map, Array.length_toList (xs := cs), hn]; omega), h3⟩
theorem sV (WB n : Nat) (zs l : List Int) (la : Option Addr) (lc : Nat) (W : World) (hs : WrS WB W zs) (hn : n = l.length) {L : Nat} (hl : zs.length ≤ L) (hL : L ≤ 80000) (hc : l.length ≤ 100) (hi : bQ W la l) (hne : ∀ b off, la = some ⟨b, off, none⟩ → 0 < l.length → b ≠ WB) :
  Calls Tryz.prog 52 #[.pointer (some ⟨WB, 0, none⟩), .slice la n lc] W fun e w' => e = .returned (.tuple #[]) ∧ ∃ zs', WrS WB w' zs' ∧ Hid (zs' = zs ++ ef l) ∧ zs'.length ≤ L + (1 + l.length) ∧ Kp WB W w' := by
 subst hn
 refine (sD WB zs l la lc W (by omega) hs hi hne).mono ?_
 rintro e w' ⟨h1, h2, h3⟩
 exact ⟨h1, _, h2, Lib.hid rfl, (by rw [List.length_append, gy]; omega), h3⟩
theorem pH (WB size n : Nat) (zs l : List Int) (la : Option Addr) (lc : Nat) (W : World) (hs : WrS WB W zs) (hs8 : size ≤ 8) (hn : n = l.length) {L : Nat} (hl : zs.length ≤ L) (hL : L ≤ 80000) (hc : l.length ≤ 100) (hi : bQ W la l) (hne : ∀ b off, la = some ⟨b, off, none⟩ → 0 < l.length → b ≠ WB) :
  Calls Tryz.prog 50 #[.pointer (some ⟨WB, 0, none⟩), .int .i64 size, .slice la n lc] W fun e w' => e = .returned (.tuple #[]) ∧ ∃ zs', WrS WB w' zs' ∧ Hid (zs' = zs ++ l.flatMap (an size)) ∧ zs'.length ≤ L + n * size ∧ Kp WB W w' := by
 subst hn
 refine (jz WB size zs l la lc W hs8 (by omega) hs hi hne).mono ?_
 rintro e w' ⟨h1, h2, h3⟩
 exact ⟨h1, _, h2, Lib.hid rfl, (by rw [List.length_append, yt _ size (fun x => aA size x)]; omega), h3⟩
end
section
open Go.RowKit
attribute [local go_sem] IsBlk.cell IsBlk.frozen
theorem acq (f : Nat → List Int) (k : Nat) : (List.range (k + 1)).flatMap f = (List.range k).flatMap f ++ f k := by rw [List.range_succ, List.flatMap_append]; simp
theorem fZ {α : Type} {l : List α} {k : Nat} {x : α} (h : l[k]? = some x) (f : α → List Int) : (l.take (k + 1)).flatMap f = (l.take k).flatMap f ++ f x := by
 rw [List.take_add_one, h, List.flatMap_append]; simp
theorem wT {acc z1 z2 z3 z4 : List Int} {p : Phs} (h1 : z1 = acc ++ ((#[Value.bool p.on].toList.map d9).map fF).flatMap (an 1))
  (h2 : z2 = z1 ++ (#[Value.int .i64 p.min, .int .i64 p.gap, .int .i64 p.max, .int .i64 p.top, .int .i64 p.step, .int .i64 p.yel, .int .i64 p.red, .int .i64 p.walk, .int .i64 p.blinks].toList.map intOf).flatMap (an 2))
  (h3 : z3 = z2 ++ (#[Value.int .i64 p.recl].toList.map intOf).flatMap (an 1)) (h4 : z4 = z3 ++ ((#[Value.bool p.lock, .bool p.rest].toList.map d9).map fF).flatMap (an 1)) : z4 = acc ++ dK p := by
 subst h1 h2 h3 h4
 simp [dK, qB, d9, intOf]
theorem pJ {acc z : List Int} {s : Nat} {n : Int} (h : z = acc ++ (#[Value.int .i64 n].toList.map intOf).flatMap (an s)) : z = acc ++ an s n := by subst h; simp [intOf]
theorem ws {acc z1 z2 z3 : List Int} {d : Det} (h1 : z1 = acc ++ (#[Value.int .i64 d.ph].toList.map intOf).flatMap (an 1)) (h2 : z2 = z1 ++ (#[Value.float .f64 d.on, .float .f64 d.off, .float .f64 d.dl, .float .f64 d.ex].toList.map g8).flatMap eO)
  (h3 : z3 = z2 ++ (#[Value.int .i64 d.mon, .int .i64 d.mof].toList.map intOf).flatMap (an 2)) : z3 = acc ++ et d := by
 subst h1 h2 h3
 simp [et, g8, intOf]
theorem vK {acc z1 z2 z3 : List Int} {r : Rl} (h1 : z1 = acc ++ (#[Value.int .i64 r.bars, .int .i64 r.clr, .int .i64 r.dwl, .int .i64 r.ext].toList.map intOf).flatMap (an 1))
  (h2 : z2 = z1 ++ (#[Value.int .i64 r.dly, .int .i64 r.grn, .int .i64 r.foot, .int .i64 r.hold, .int .i64 r.stay, .int .i64 r.most].toList.map intOf).flatMap (an 2)) (h3 : z3 = z2 ++ (#[Value.int .i64 r.lim].toList.map intOf).flatMap (an 4)) : z3 = acc ++ eu r := by
 subst h1 h2 h3
 simp [eu, intOf]
theorem aew {acc z1 z2 : List Int} {b : Bus} (h1 : z1 = acc ++ (#[Value.int .i64 b.set].toList.map intOf).flatMap (an 1)) (h2 : z2 = z1 ++ (#[Value.int .i64 b.lock].toList.map intOf).flatMap (an 2)) : z2 = acc ++ fd b := by
 subst h1 h2
 simp [fd, intOf]
theorem yn.weak {w : World} {b1 b2 : Nat} {v : Value} {zs : List Int} (h : yn w b1 v zs) (hb : b2 ≤ b1) : yn w b2 v zs := by
 obtain ⟨h1, h⟩ := h
 refine ⟨h1, ?_⟩
 rcases h with h | ⟨g, cap, cur, e, hg, hc, h3, h4, h5, h6⟩
 ·exact .inl h
 ·exact .inr ⟨g, cap, cur, e, by omega, hc, h3, h4, h5, h6⟩
theorem nC {W : World} {b off n : Nat} {T : Array Value} {t : TypeId} {f : Nat → Int} (h : IsBlk W b T t) (hc : ∀ p, p < n → T[off + p]? = some (.int .i64 (f p))) : bQ W (some ⟨b, off, none⟩) ((List.range n).map f) := by
 refine .inr ⟨b, off, rfl, (Array.getElem?_eq_some_iff.1 h.out).1, fun i hi => ?_⟩
 have hi' : i < n := by simpa using hi
 rw [IsBlk.cell, hc i hi']
 simp [List.getD, hi']
theorem aaz (T : Array Value) (t : Tab) (w : World) (hT : ag w T t) (hm : dS t = true) :
  Calls Tryz.prog 17 #[.agg T] w fun e w' => ∃ v, e = .returned (.tuple #[v, .int .i64 0]) ∧ yn w' w.heap.size v (fx t) ∧ Below w.heap.size w w' := by
 haveI : Sz131 T := ⟨hT.size⟩
 have HM : Hid (∀ W, Below w.heap.size w W → Calls Tryz.prog 49 #[.agg T] W fun e w' => e = .returned (.bool true) ∧ ∃ u : Up W, w' = u.w) := Lib.hid fun W hW => by rw [← hm]; exact Up.run (gN T t W (hT.below hW (Nat.le_refl _)))
 have HX : Hid (∀ k, k < 8 → ∀ w, Sem.run Tryz.prog (Instr.index 27 (.agg (T.extract 0 104)) (.int .i64 (k : Nat))) w = .ok (.agg (gS (t.ph k))) w) := Lib.hid fun k hk w' => gM hk hT.size (hT.isPh k hk).out w'
 have HCF : Hid (∀ W, IsBlk W w.heap.size T 34 → bQ W (some ⟨w.heap.size, 105, none⟩) ((List.range 8).map t.cf)) := Lib.hid fun W h => nC h hT.cf
 have HFL : Hid (∀ W, IsBlk W w.heap.size T 34 → bQ W (some ⟨w.heap.size, 121, none⟩) ((List.range 8).map t.fl)) := Lib.hid fun W h => nC h hT.fl
 obtain ⟨gv, dv, rv, bv, hTe, hI⟩ := hT
 obtain ⟨ga, gcap, H, rfl, hgrow, hgints⟩ := hI.gr
 obtain ⟨da, dcap, rfl, hdrow⟩ := hI.de
 obtain ⟨ra, rcap, rfl, hrrow⟩ := hI.ra
 obtain ⟨ba, bcap, rfl, hbrow⟩ := hI.bu
 have LR := Lib.hid hI.lr
 have hlen : t.gr.length ≤ 4 ∧ t.de.length ≤ 16 ∧ t.ra.length ≤ 4 ∧ t.bu.length ≤ 4 := by simp only [dS, Bool.and_eq_true, decide_eq_true_eq] at hm; omega
 obtain ⟨hlg, hld, hlr, hlb⟩ := hlen
 have t104 : T[104]? = some (.slice ga t.gr.length gcap) := by rw [hTe, ab _ _ _ (by omega)]; rfl
 have t113 : T[113]? = some (.slice da t.de.length dcap) := by rw [hTe, ab _ _ _ (by omega)]; rfl
 have t114 : T[114]? = some (.slice ra t.ra.length rcap) := by rw [hTe, ab _ _ _ (by omega)]; rfl
 have t115 : T[115]? = some (.slice ba t.bu.length bcap) := by rw [hTe, ab _ _ _ (by omega)]; rfl
 have t116 : T[116]? = some (.int .i64 t.ext) := by rw [hTe, ab _ _ _ (by omega)]; rfl
 have t117 : T[117]? = some (.int .i64 t.bud) := by rw [hTe, ab _ _ _ (by omega)]; rfl
 have t118 : T[118]? = some (.int .i64 t.start) := by rw [hTe, ab _ _ _ (by omega)]; rfl
 have t119 : T[119]? = some (.int .i64 t.rev) := by rw [hTe, ab _ _ _ (by omega)]; rfl
 have t120 : T[120]? = some (.int .i64 t.least) := by rw [hTe, ab _ _ _ (by omega)]; rfl
 have t129 : T[129]? = some (.int .i64 t.win) := by rw [hTe, ab _ _ _ (by omega)]; rfl
 have t130 : T[130]? = some (.int .i64 t.share) := by rw [hTe, ab _ _ _ (by omega)]; rfl
 have HGR := Lib.hid hgrow
 have HGI := Lib.hid hgints
 have HDR := Lib.hid hdrow
 have HRR := Lib.hid hrrow
 have HBR := Lib.hid hbrow
 clear hgrow hgints hdrow hrrow hbrow hI hTe
 have f0 : ∀ p, (gS p)[0]? = some (.bool p.on) := fun p => rfl
 have f1 : ∀ p, (gS p)[1]? = some (.int .i64 p.min) := fun p => rfl
 have f2 : ∀ p, (gS p)[2]? = some (.int .i64 p.gap) := fun p => rfl
 have f3 : ∀ p, (gS p)[3]? = some (.int .i64 p.max) := fun p => rfl
 have f4 : ∀ p, (gS p)[4]? = some (.int .i64 p.top) := fun p => rfl
 have f5 : ∀ p, (gS p)[5]? = some (.int .i64 p.step) := fun p => rfl
 have f6 : ∀ p, (gS p)[6]? = some (.int .i64 p.yel) := fun p => rfl
 have f7 : ∀ p, (gS p)[7]? = some (.int .i64 p.red) := fun p => rfl
 have f8 : ∀ p, (gS p)[8]? = some (.int .i64 p.walk) := fun p => rfl
 have f9 : ∀ p, (gS p)[9]? = some (.int .i64 p.blinks) := fun p => rfl
 have f10 : ∀ p, (gS p)[10]? = some (.int .i64 p.recl) := fun p => rfl
 have f11 : ∀ p, (gS p)[11]? = some (.bool p.lock) := fun p => rfl
 have f12 : ∀ p, (gS p)[12]? = some (.bool p.rest) := fun p => rfl
 go_enter Tryz.func17, Tryz.ntmps17
 go_wp2_with (first | (refine aJ rfl rfl rfl ?_; go_simp) | (refine mb rfl rfl rfl ?_; go_simp) | (go_at_call 49; refine (HM.out _ (by exact yd)).mono ?_; rintro e w' ⟨rfl, um, rfl⟩) | (go_at_call 50; refine (bS um.w.heap.size 3 1 _ #[.int .i64 5784065] [] _ (⟨_, aq _ _, yn.nil _ _⟩ : WrS um.w.heap.size (um.w.alloc (.cells #[.slice none 0 0] 129)) []) (by simp) (by decide) rfl (L := 0) (by simp) (by decide) (by simp) (by simp)).mono ?_; rintro e w0 ⟨rfl, z0, hs0, hz0, hl0, hk0⟩; have hus : w.heap.size < um.w.heap.size := Nat.lt_of_lt_of_le (by simp) um.bel.size; haveI iT0 := hk0.blk (b := w.heap.size) (C := T) (t := 34) inferInstance (by omega)))
 obtain ⟨WB, hWB⟩ : ∃ WB, um.w.heap.size = WB := ⟨_, rfl⟩
 have hb0 : Below w.heap.size w w0 := hk0.bel _ _ (by omega) (by exact yd)
 rw [hWB] at hs0 hk0 hus ⊢
 have hZ0 : Hid (z0 = an 3 ie) := Lib.hid (by rw [hz0.out]; simp [intOf, ie])
 clear hWB hz0 hk0 HM
 go_loopw [25] (fun i wr => ∃ (k : Nat) (acc : List Int), k ≤ 8 ∧ i = .int .i64 k ∧ WrS WB wr acc ∧ Hid (acc = z0 ++ ((List.range k).flatMap fun p => dK (t.ph p))) ∧ acc.length ≤ 3 + 22 * k ∧ Below w.heap.size w wr ∧ IsBlk wr w.heap.size T 34) (fun i _ => 8 - (intOf i).toNat)
 case atStart => exact ⟨0, z0, by omega, rfl, hs0, Lib.hid (by simp), by omega, hb0, iT0⟩
 case round =>
  obtain ⟨k, acc, hk, rfl, hs, hA, hla, hb, iT⟩ := hrel
  have hq := hs.lt
  have hla2 : acc.length ≤ 200 := by omega
  have hbs := hb.size
  have hnejP : wr.heap.size ≠ WB := by omega
  have hnejT : w.heap.size ≠ WB := by omega
  by_cases hlt : k < 8
  ·have hix := HX.out k hlt
   have hkI : (k : Int) < 8 := by omega
   have HN : Hid (((List.range (k + 1)).flatMap fun p => dK (t.ph p)) = ((List.range k).flatMap fun p => dK (t.ph p)) ++ dK (t.ph k)) := Lib.hid (acq _ k)
   generalize t.ph k = p at *
   clear HX HCF HFL LR HGR HGI HDR HRR HBR t104 t113 t114 t115 t116 t117 t118 t119 t120 t129 t130 hlg hld hlr hlb hm hl0 hs0 hb0 hZ0 iT0
   go_wp2_with (refine lD rfl rfl rfl rfl inferInstance rfl ?_; go_simp)
   go_at_call 51; refine (tM WB 1 _ #[.bool p.on] _ _ (hs.alloc _) (by simp) rfl hla2 (by decide) (by simp) (by simp)).mono ?_; rintro e w1 ⟨rfl, z1, hs1, hz1, hl1, hk1⟩; have hq1 := hs1.lt; haveI jP1 := hk1.blk (b := wr.heap.size) (C := gS p) (t := 26) inferInstance hnejP; haveI jT1 := hk1.blk (b := w.heap.size) (C := T) (t := 34) inferInstance hnejT
   go_wp2_with fail
   go_at_call 50; refine (bS WB 2 9 _ #[.int .i64 p.min, .int .i64 p.gap, .int .i64 p.max, .int .i64 p.top, .int .i64 p.step, .int .i64 p.yel, .int .i64 p.red, .int .i64 p.walk, .int .i64 p.blinks] _ _ hs1 (by simp) (by decide) rfl hl1 (by decide) (by simp) (by simp)).mono ?_; rintro e w2 ⟨rfl, z2, hs2, hz2, hl2, hk2⟩; have hq2 := hs2.lt; haveI jP2 := hk2.blk (b := wr.heap.size) (C := gS p) (t := 26) inferInstance hnejP; haveI jT2 := hk2.blk (b := w.heap.size) (C := T) (t := 34) inferInstance hnejT
   go_wp2_with fail
   go_at_call 50; refine (bS WB 1 1 _ #[.int .i64 p.recl] _ _ hs2 (by simp) (by decide) rfl hl2 (by decide) (by simp) (by simp)).mono ?_; rintro e w3 ⟨rfl, z3, hs3, hz3, hl3, hk3⟩; have hq3 := hs3.lt; haveI jP3 := hk3.blk (b := wr.heap.size) (C := gS p) (t := 26) inferInstance hnejP; haveI jT3 := hk3.blk (b := w.heap.size) (C := T) (t := 34) inferInstance hnejT
   go_wp2_with fail
   go_at_call 51; refine (tM WB 2 _ #[.bool p.lock, .bool p.rest] _ _ hs3 (by simp) rfl hl3 (by decide) (by simp) (by simp)).mono ?_; rintro e w4 ⟨rfl, z4, hs4, hz4, hl4, hk4⟩; have hq4 := hs4.lt; haveI jP4 := hk4.blk (b := wr.heap.size) (C := gS p) (t := 26) inferInstance hnejP; haveI jT4 := hk4.blk (b := w.heap.size) (C := T) (t := 34) inferInstance hnejT
   go_wp2_with fail
   have hE := wT hz1.out hz2.out hz3.out hz4.out
   go_roundw
   case rel =>
    refine ⟨k + 1, z4, by omega, by go_num, hs4, Lib.hid ?_, by rw [hE, List.length_append, lq]; omega, ?_, jT4⟩
    ·rw [hE, HN.out, hA.out, List.append_assoc]
    ·exact hk4.bel _ _ (by omega) (hk3.bel _ _ (by omega) (hk2.bel _ _ (by omega) (hk1.bel _ _ (by omega) (hb.alloc (by have := hb.size; omega) _))))
   case measure => simp [intOf]; omega
  ·obtain rfl : k = 8 := by omega
   have HA0 : Hid (acc = z0 ++ (List.range 8).flatMap fun p => dK (t.ph p)) := hA
   clear hA HX hs0 hl0 hb0 iT0 hlt
   go_wp2_with fail
   go_at_call 50; refine (bS WB 1 1 _ #[.int .i64 (t.gr.length : Int)] _ _ hs (by simp) (by decide) rfl hla2 (by decide) (by simp) (by simp)).mono ?_; rintro e w1 ⟨rfl, zG, hs1, hz1, hl1, hk1⟩; have hq1 := hs1.lt; haveI jT1 := hk1.blk (b := w.heap.size) (C := T) (t := 34) inferInstance hnejT
   have HZG := Lib.hid (pJ hz1.out)
   have hb1 := hk1.bel _ _ (by omega) hb
   go_wp2_with fail
   go_loopw [76] (fun i wr => ∃ (k : Nat) (acc : List Int), k ≤ t.gr.length ∧ i = .int .i64 k ∧ WrS WB wr acc ∧ Hid (acc = zG ++ (t.gr.take k).flatMap fg) ∧ acc.length ≤ 210 + 18 * k ∧ Below w.heap.size w wr ∧ IsBlk wr w.heap.size T 34) (fun i _ => t.gr.length - (intOf i).toNat)
   case atStart => exact ⟨0, zG, Nat.zero_le _, rfl, hs1, Lib.hid (by simp), by omega, hb1, jT1⟩
   case round =>
    clear hs1 hz1 hl1 hk1 hq1 jT1 hb1 hs hla hb iT hq hla2 hbs hnejT
    obtain ⟨k, accG, hk, rfl, hs, hA, hla, hb, iT⟩ := hrel
    have hq := hs.lt
    have hla2 : accG.length ≤ 2000 := by omega
    have hbs := hb.size
    have hnejB : wr.heap.size ≠ WB := by omega
    have hnejT : w.heap.size ≠ WB := by omega
    by_cases hlt : k < t.gr.length
    ·have hkI : (k : Int) < t.gr.length := by omega
     obtain ⟨x, hx⟩ : ∃ x, t.gr[k]? = some x := ⟨_, List.getElem?_eq_getElem hlt⟩
     obtain ⟨rb, roff, rfl, hrb, hrc⟩ := HGR.out.resolve_left (by omega)
     have c0 : wr.cell? ⟨rb, roff + k * 2 + 0, none⟩ = some (.slice (H k 0).1 (ak t.gr k 0).length (H k 0).2) := by rw [hb.cell (p := ⟨rb, roff + k * 2 + 0, none⟩) hrb]; exact hrc k hlt 0 (by omega)
     have c1 : wr.cell? ⟨rb, roff + k * 2 + 1, none⟩ = some (.slice (H k 1).1 (ak t.gr k 1).length (H k 1).2) := by rw [hb.cell (p := ⟨rb, roff + k * 2 + 1, none⟩) hrb]; exact hrc k hlt 1 (by omega)
     have hi0 := HGI.out k hlt 0 (by omega)
     have hi1 := HGI.out k hlt 1 (by omega)
     have hr0 := LR.out k 0
     have hr1 := LR.out k 1
     have hg0 : ak t.gr k 0 = x.1 := by simp [ak, hx]
     have hg1 : ak t.gr k 1 = x.2 := by simp [ak, hx]
     rw [hg0] at c0 hi0 hr0
     rw [hg1] at c1 hi1 hr1
     clear hg0 hg1 hrc
     generalize (H k 0).1 = a0 at *
     generalize (H k 0).2 = p0 at *
     generalize (H k 1).1 = a1 at *
     generalize (H k 1).2 = p1 at *
     obtain ⟨r0, r1⟩ := x
     simp only at c0 c1 hi0 hi1 hr0 hr1
     have EL : Sem.run Tryz.prog (Instr.loadAt 60 (.pointer (some ⟨rb, roff + k * 2, none⟩))) wr = .ok (.agg #[.slice a0 r0.length p0, .slice a1 r1.length p1]) wr :=
      run_loadAt_mid (P := Tryz.prog) wr rb (roff + k * 2) 60 [.slice a0 r0.length p0, .slice a1 r1.length p1] _ (fun j v hj => by
       match j, hj with
       | 0, hj => simp at hj; subst hj; exact c0
       | 1, hj => simp at hj; subst hj; exact c1) Tryz.underlying60 rfl (by kernel_rfl)
     have HI0 : Hid (∀ W, Below w.heap.size w W → bQ W a0 r0) := Lib.hid fun W hW => bk.below hi0 hW (Nat.le_refl _)
     have HI1 : Hid (∀ W, Below w.heap.size w W → bQ W a1 r1) := Lib.hid fun W hW => bk.below hi1 hW (Nat.le_refl _)
     have HN0 : Hid (∀ b off, a0 = some ⟨b, off, none⟩ → 0 < r0.length → b ≠ WB) := Lib.hid fun b off e h0 => by
      obtain ⟨b', off', e', hb', _⟩ := hi0.resolve_left (by omega)
      rw [e] at e'; cases e'; omega
     have HN1 : Hid (∀ b off, a1 = some ⟨b, off, none⟩ → 0 < r1.length → b ≠ WB) := Lib.hid fun b off e h0 => by
      obtain ⟨b', off', e', hb', _⟩ := hi1.resolve_left (by omega)
      rw [e] at e'; cases e'; omega
     clear hi0 hi1 c0 c1 HCF HFL LR HGR HGI HDR HRR HBR t104 t113 t114 t115 t116 t117 t118 t119 t120 t129 t130
     have hba : Below w.heap.size w (wr.alloc (.cells #[.slice a0 r0.length p0, .slice a1 r1.length p1] 60)) := hb.alloc (by omega) _
     go_wp2_with (refine au rfl rfl rfl EL ?_; go_simp)
     go_at_call 52; refine (sV WB _ _ r0 _ _ _ (hs.alloc _) rfl hla2 (by decide) (by omega) (HI0.out _ hba) HN0.out).mono ?_; rintro e w1 ⟨rfl, z1, hs1, hz1, hl1, hk1⟩; have hq1 := hs1.lt; haveI jB1 := hk1.blk (b := wr.heap.size) (C := #[.slice a0 r0.length p0, .slice a1 r1.length p1]) (t := 60) inferInstance hnejB; haveI jT1 := hk1.blk (b := w.heap.size) (C := T) (t := 34) inferInstance hnejT
     go_wp2_with fail
     go_at_call 52; refine (sV WB _ _ r1 _ _ _ hs1 rfl hl1 (by omega) (by omega) (HI1.out _ (hk1.bel _ _ (by omega) hba)) HN1.out).mono ?_; rintro e w2 ⟨rfl, z2, hs2, hz2, hl2, hk2⟩; have hq2 := hs2.lt; haveI jB2 := hk2.blk (b := wr.heap.size) (C := #[.slice a0 r0.length p0, .slice a1 r1.length p1]) (t := 60) inferInstance hnejB; haveI jT2 := hk2.blk (b := w.heap.size) (C := T) (t := 34) inferInstance hnejT
     go_wp2_with fail
     have hE : z2 = accG ++ fg (r0, r1) := by rw [hz2.out, hz1.out, List.append_assoc]; rfl
     have hT1 := fZ hx fg
     go_roundw
     case rel =>
      refine ⟨k + 1, z2, by omega, by go_num, hs2, Lib.hid ?_, by rw [hE, List.length_append, lj]; simp only; omega, ?_, jT2⟩
      ·rw [hE, hT1, hA.out, List.append_assoc]
      ·exact hk2.bel _ _ (by omega) (hk1.bel _ _ (by omega) hba)
     case measure => simp [intOf]; omega
    ·obtain rfl : k = t.gr.length := by omega
     have HAG : Hid (accG = zG ++ t.gr.flatMap fg) := Lib.hid (by rw [hA.out, List.take_length])
     clear hA hlt hnejB
     go_wp2_with fail
     go_at_call 50; refine (pH WB 1 8 _ ((List.range 8).map t.cf) (some ⟨w.heap.size, 105, none⟩) 8 _ hs (by decide) (by simp) hla2 (by omega) (by simp) (HCF.out _ iT) (fun b off e _ => by cases e; omega)).mono ?_; rintro e w1 ⟨rfl, zC, hsC, HZC, hlC, hkC⟩; have hqC := hsC.lt; haveI jTC := hkC.blk (b := w.heap.size) (C := T) (t := 34) inferInstance hnejT
     have hbC := hkC.bel _ _ (by omega) hb
     go_wp2_with fail
     go_at_call 50; refine (bS WB 1 1 _ #[.int .i64 (t.de.length : Int)] _ _ hsC (by simp) (by decide) rfl hlC (by omega) (by simp) (by simp)).mono ?_; rintro e w1 ⟨rfl, zD, hsD, HZD, hlD, hkD⟩; have hqD := hsD.lt; haveI jTD := hkD.blk (b := w.heap.size) (C := T) (t := 34) inferInstance hnejT
     have hbD := hkD.bel _ _ (by omega) hbC
     clear hs hla hb iT hq hsC hlC jTC hbC hqC hkC HCF hbs hla2 hkD
     go_wp2_with fail
     go_loopw [102] (fun i wr => ∃ (k : Nat) (acc : List Int), k ≤ t.de.length ∧ i = .int .i64 k ∧ WrS WB wr acc ∧ Hid (acc = zD ++ (t.de.take k).flatMap et) ∧ acc.length ≤ 4000 + 37 * k ∧ Below w.heap.size w wr ∧ IsBlk wr w.heap.size T 34) (fun i _ => t.de.length - (intOf i).toNat)
     case atStart => exact ⟨0, zD, Nat.zero_le _, rfl, hsD, Lib.hid (by simp), by omega, hbD, jTD⟩
     case round =>
      clear hsD hlD jTD hbD hqD hnejT
      obtain ⟨k, accD, hk, rfl, hs, hA, hla, hb, iT⟩ := hrel
      have hq := hs.lt
      have hla2 : accD.length ≤ 9000 := by omega
      have hbs := hb.size
      have hnejB : wr.heap.size ≠ WB := by omega
      have hnejT : w.heap.size ≠ WB := by omega
      by_cases hlt : k < t.de.length
      ·have hkI : (k : Int) < t.de.length := by omega
       obtain ⟨x, hx⟩ : ∃ x, t.de[k]? = some x := ⟨_, List.getElem?_eq_getElem hlt⟩
       obtain ⟨rb, roff, rfl, hrb, hrc⟩ := HDR.out.resolve_left (by omega)
       have hcc : ∀ j, j < 7 → wr.cell? ⟨rb, roff + k * 7 + j, none⟩ = some ((aQ x).getD j undef) := fun j hj => by
        rw [hb.cell (p := ⟨rb, roff + k * 7 + j, none⟩) hrb, hrc k hlt j hj]
        simp only [aF, hx, Option.bind_some, List.getD_eq_getElem?_getD]
       have c0 := hcc 0 (by omega)
       have c1 := hcc 1 (by omega)
       have c2 := hcc 2 (by omega)
       have c3 := hcc 3 (by omega)
       have c4 := hcc 4 (by omega)
       have c5 := hcc 5 (by omega)
       have c6 := hcc 6 (by omega)
       simp only [aQ, List.getD_cons_succ, List.getD_cons_zero, Nat.add_zero] at c0 c1 c2 c3 c4 c5 c6
       haveI : LeSize (rb + 1) wr := ⟨Nat.lt_of_lt_of_le hrb hbs⟩
       clear hcc hrc HFL HRR HBR HDR t114 t115 t116 t117 t118 t119 t120 t129 t130
       go_wp2_with fail
       go_at_call 50; refine (bS WB 1 1 _ #[.int .i64 x.ph] _ _ (hs.alloc _) (by simp) (by decide) rfl hla2 (by decide) (by simp) (by simp)).mono ?_; rintro e w1 ⟨rfl, z1, hs1, hz1, hl1, hk1⟩; have hq1 := hs1.lt; haveI jB1 := hk1.blk (b := wr.heap.size) (C := #[.int .i64 x.ph, .float .f64 x.on, .float .f64 x.off, .float .f64 x.dl, .float .f64 x.ex, .int .i64 x.mon, .int .i64 x.mof]) (t := 58) inferInstance hnejB; haveI jT1 := hk1.blk (b := w.heap.size) (C := T) (t := 34) inferInstance hnejT
       go_wp2_with fail
       go_at_call 53; refine (acQ WB 4 _ #[.float .f64 x.on, .float .f64 x.off, .float .f64 x.dl, .float .f64 x.ex] _ _ hs1 (by simp) rfl hl1 (by decide) (by simp) (by simp)).mono ?_; rintro e w2 ⟨rfl, z2, hs2, hz2, hl2, hk2⟩; have hq2 := hs2.lt; haveI jB2 := hk2.blk (b := wr.heap.size) (C := #[.int .i64 x.ph, .float .f64 x.on, .float .f64 x.off, .float .f64 x.dl, .float .f64 x.ex, .int .i64 x.mon, .int .i64 x.mof]) (t := 58) inferInstance hnejB; haveI jT2 := hk2.blk (b := w.heap.size) (C := T) (t := 34) inferInstance hnejT
       go_wp2_with fail
       go_at_call 50; refine (bS WB 2 2 _ #[.int .i64 x.mon, .int .i64 x.mof] _ _ hs2 (by simp) (by decide) rfl hl2 (by decide) (by simp) (by simp)).mono ?_; rintro e w3 ⟨rfl, z3, hs3, hz3, hl3, hk3⟩; have hq3 := hs3.lt; haveI jB3 := hk3.blk (b := wr.heap.size) (C := #[.int .i64 x.ph, .float .f64 x.on, .float .f64 x.off, .float .f64 x.dl, .float .f64 x.ex, .int .i64 x.mon, .int .i64 x.mof]) (t := 58) inferInstance hnejB; haveI jT3 := hk3.blk (b := w.heap.size) (C := T) (t := 34) inferInstance hnejT
       go_wp2_with fail
       have hE := ws hz1.out hz2.out hz3.out
       have hT1 := fZ hx et
       go_roundw
       case rel =>
        refine ⟨k + 1, z3, by omega, by go_num, hs3, Lib.hid ?_, by rw [hE, List.length_append, kG]; omega, ?_, jT3⟩
        ·rw [hE, hT1, hA.out, List.append_assoc]
        ·exact hk3.bel _ _ (by omega) (hk2.bel _ _ (by omega) (hk1.bel _ _ (by omega) (hb.alloc (by omega) _)))
       case measure => simp [intOf]; omega
      ·obtain rfl : k = t.de.length := by omega
       have HAD : Hid (accD = zD ++ t.de.flatMap et) := Lib.hid (by rw [hA.out, List.take_length])
       clear hA hlt hnejB
       go_wp2_with fail
       go_at_call 50; refine (bS WB 1 1 _ #[.int .i64 (t.ra.length : Int)] _ _ hs (by simp) (by decide) rfl hla2 (by omega) (by simp) (by simp)).mono ?_; rintro e w1 ⟨rfl, zE, hsE, HZE, hlE, hkE⟩; have hqE := hsE.lt; haveI jTE := hkE.blk (b := w.heap.size) (C := T) (t := 34) inferInstance hnejT
       have hbE := hkE.bel _ _ (by omega) hb
       clear hs hla hb iT hq hbs hla2 hkE
       go_wp2_with fail
       go_loopw [139] (fun i wr => ∃ (k : Nat) (acc : List Int), k ≤ t.ra.length ∧ i = .int .i64 k ∧ WrS WB wr acc ∧ Hid (acc = zE ++ (t.ra.take k).flatMap eu) ∧ acc.length ≤ 9010 + 20 * k ∧ Below w.heap.size w wr ∧ IsBlk wr w.heap.size T 34) (fun i _ => t.ra.length - (intOf i).toNat)
       case atStart => exact ⟨0, zE, Nat.zero_le _, rfl, hsE, Lib.hid (by simp), by omega, hbE, jTE⟩
       case round =>
        clear hsE hlE jTE hbE hqE hnejT
        obtain ⟨k, accE, hk, rfl, hs, hA, hla, hb, iT⟩ := hrel
        have hq := hs.lt
        have hla2 : accE.length ≤ 19000 := by omega
        have hbs := hb.size
        have hnejB : wr.heap.size ≠ WB := by omega
        have hnejT : w.heap.size ≠ WB := by omega
        by_cases hlt : k < t.ra.length
        ·have hkI : (k : Int) < t.ra.length := by omega
         obtain ⟨x, hx⟩ : ∃ x, t.ra[k]? = some x := ⟨_, List.getElem?_eq_getElem hlt⟩
         obtain ⟨rb, roff, rfl, hrb, hrc⟩ := HRR.out.resolve_left (by omega)
         have hcc : ∀ j, j < 11 → wr.cell? ⟨rb, roff + k * 11 + j, none⟩ = some ((dq x).getD j undef) := fun j hj => by
          rw [hb.cell (p := ⟨rb, roff + k * 11 + j, none⟩) hrb, hrc k hlt j hj]
          simp only [aF, hx, Option.bind_some, List.getD_eq_getElem?_getD]
         have c0 := hcc 0 (by omega)
         have c1 := hcc 1 (by omega)
         have c2 := hcc 2 (by omega)
         have c3 := hcc 3 (by omega)
         have c4 := hcc 4 (by omega)
         have c5 := hcc 5 (by omega)
         have c6 := hcc 6 (by omega)
         have c7 := hcc 7 (by omega)
         have c8 := hcc 8 (by omega)
         have c9 := hcc 9 (by omega)
         have c10 := hcc 10 (by omega)
         simp only [dq, List.getD_cons_succ, List.getD_cons_zero, Nat.add_zero] at c0 c1 c2 c3 c4 c5 c6 c7 c8 c9 c10
         haveI : LeSize (rb + 1) wr := ⟨Nat.lt_of_lt_of_le hrb hbs⟩
         clear hcc hrc HFL HRR HBR t115 t116 t117 t118 t119 t120 t129 t130
         go_wp2_with fail
         go_at_call 50; refine (bS WB 1 4 _ #[.int .i64 x.bars, .int .i64 x.clr, .int .i64 x.dwl, .int .i64 x.ext] _ _ (hs.alloc _) (by simp) (by decide) rfl hla2 (by decide) (by simp) (by simp)).mono ?_; rintro e w1 ⟨rfl, z1, hs1, hz1, hl1, hk1⟩; have hq1 := hs1.lt; haveI jB1 := hk1.blk (b := wr.heap.size) (C := #[.int .i64 x.bars, .int .i64 x.clr, .int .i64 x.dwl, .int .i64 x.ext, .int .i64 x.dly, .int .i64 x.grn, .int .i64 x.foot, .int .i64 x.hold, .int .i64 x.stay, .int .i64 x.most, .int .i64 x.lim]) (t := 100) inferInstance hnejB; haveI jT1 := hk1.blk (b := w.heap.size) (C := T) (t := 34) inferInstance hnejT
         go_wp2_with fail
         go_at_call 50; refine (bS WB 2 6 _ #[.int .i64 x.dly, .int .i64 x.grn, .int .i64 x.foot, .int .i64 x.hold, .int .i64 x.stay, .int .i64 x.most] _ _ hs1 (by simp) (by decide) rfl hl1 (by decide) (by simp) (by simp)).mono ?_; rintro e w2 ⟨rfl, z2, hs2, hz2, hl2, hk2⟩; have hq2 := hs2.lt; haveI jB2 := hk2.blk (b := wr.heap.size) (C := #[.int .i64 x.bars, .int .i64 x.clr, .int .i64 x.dwl, .int .i64 x.ext, .int .i64 x.dly, .int .i64 x.grn, .int .i64 x.foot, .int .i64 x.hold, .int .i64 x.stay, .int .i64 x.most, .int .i64 x.lim]) (t := 100) inferInstance hnejB; haveI jT2 := hk2.blk (b := w.heap.size) (C := T) (t := 34) inferInstance hnejT
         go_wp2_with fail
         go_at_call 50; refine (bS WB 4 1 _ #[.int .i64 x.lim] _ _ hs2 (by simp) (by decide) rfl hl2 (by decide) (by simp) (by simp)).mono ?_; rintro e w3 ⟨rfl, z3, hs3, hz3, hl3, hk3⟩; have hq3 := hs3.lt; haveI jB3 := hk3.blk (b := wr.heap.size) (C := #[.int .i64 x.bars, .int .i64 x.clr, .int .i64 x.dwl, .int .i64 x.ext, .int .i64 x.dly, .int .i64 x.grn, .int .i64 x.foot, .int .i64 x.hold, .int .i64 x.stay, .int .i64 x.most, .int .i64 x.lim]) (t := 100) inferInstance hnejB; haveI jT3 := hk3.blk (b := w.heap.size) (C := T) (t := 34) inferInstance hnejT
         go_wp2_with fail
         have hE := vK hz1.out hz2.out hz3.out
         have hT1 := fZ hx eu
         go_roundw
         case rel =>
          refine ⟨k + 1, z3, by omega, by go_num, hs3, Lib.hid ?_, by rw [hE, List.length_append, lh]; omega, ?_, jT3⟩
          ·rw [hE, hT1, hA.out, List.append_assoc]
          ·exact hk3.bel _ _ (by omega) (hk2.bel _ _ (by omega) (hk1.bel _ _ (by omega) (hb.alloc (by omega) _)))
         case measure => simp [intOf]; omega
        ·obtain rfl : k = t.ra.length := by omega
         have HAE : Hid (accE = zE ++ t.ra.flatMap eu) := Lib.hid (by rw [hA.out, List.take_length])
         clear hA hlt hnejB
         go_wp2_with fail
         go_at_call 50; refine (bS WB 1 1 _ #[.int .i64 (t.bu.length : Int)] _ _ hs (by simp) (by decide) rfl hla2 (by omega) (by simp) (by simp)).mono ?_; rintro e w1 ⟨rfl, zB, hsB, HZB, hlB, hkB⟩; have hqB := hsB.lt; haveI jTB := hkB.blk (b := w.heap.size) (C := T) (t := 34) inferInstance hnejT
         have hbB := hkB.bel _ _ (by omega) hb
         clear hs hla hb iT hq hbs hla2 hkB
         go_wp2_with fail
         go_loopw [184] (fun i wr => ∃ (k : Nat) (acc : List Int), k ≤ t.bu.length ∧ i = .int .i64 k ∧ WrS WB wr acc ∧ Hid (acc = zB ++ (t.bu.take k).flatMap fd) ∧ acc.length ≤ 19010 + 3 * k ∧ Below w.heap.size w wr ∧ IsBlk wr w.heap.size T 34) (fun i _ => t.bu.length - (intOf i).toNat)
         case atStart => exact ⟨0, zB, Nat.zero_le _, rfl, hsB, Lib.hid (by simp), by omega, hbB, jTB⟩
         case round =>
          clear hsB hlB jTB hbB hqB hnejT
          obtain ⟨k, accB, hk, rfl, hs, hA, hla, hb, iT⟩ := hrel
          have hq := hs.lt
          have hla2 : accB.length ≤ 30000 := by omega
          have hbs := hb.size
          have hnejB : wr.heap.size ≠ WB := by omega
          have hnejT : w.heap.size ≠ WB := by omega
          by_cases hlt : k < t.bu.length
          ·have hkI : (k : Int) < t.bu.length := by omega
           obtain ⟨x, hx⟩ : ∃ x, t.bu[k]? = some x := ⟨_, List.getElem?_eq_getElem hlt⟩
           obtain ⟨rb, roff, rfl, hrb, hrc⟩ := HBR.out.resolve_left (by omega)
           have hcc : ∀ j, j < 2 → wr.cell? ⟨rb, roff + k * 2 + j, none⟩ = some ((dm x).getD j undef) := fun j hj => by
            rw [hb.cell (p := ⟨rb, roff + k * 2 + j, none⟩) hrb, hrc k hlt j hj]
            simp only [aF, hx, Option.bind_some, List.getD_eq_getElem?_getD]
           have c0 := hcc 0 (by omega)
           have c1 := hcc 1 (by omega)
           simp only [dm, List.getD_cons_succ, List.getD_cons_zero, Nat.add_zero] at c0 c1
           haveI : LeSize (rb + 1) wr := ⟨Nat.lt_of_lt_of_le hrb hbs⟩
           clear hcc hrc HFL HBR t116 t117 t118 t119 t120 t129 t130
           go_wp2_with fail
           go_at_call 50; refine (bS WB 1 1 _ #[.int .i64 x.set] _ _ (hs.alloc _) (by simp) (by decide) rfl hla2 (by decide) (by simp) (by simp)).mono ?_; rintro e w1 ⟨rfl, z1, hs1, hz1, hl1, hk1⟩; have hq1 := hs1.lt; haveI jB1 := hk1.blk (b := wr.heap.size) (C := #[.int .i64 x.set, .int .i64 x.lock]) (t := 110) inferInstance hnejB; haveI jT1 := hk1.blk (b := w.heap.size) (C := T) (t := 34) inferInstance hnejT
           go_wp2_with fail
           go_at_call 50; refine (bS WB 2 1 _ #[.int .i64 x.lock] _ _ hs1 (by simp) (by decide) rfl hl1 (by decide) (by simp) (by simp)).mono ?_; rintro e w2 ⟨rfl, z2, hs2, hz2, hl2, hk2⟩; have hq2 := hs2.lt; haveI jB2 := hk2.blk (b := wr.heap.size) (C := #[.int .i64 x.set, .int .i64 x.lock]) (t := 110) inferInstance hnejB; haveI jT2 := hk2.blk (b := w.heap.size) (C := T) (t := 34) inferInstance hnejT
           go_wp2_with fail
           have hE := aew hz1.out hz2.out
           have hT1 := fZ hx fd
           go_roundw
           case rel =>
            refine ⟨k + 1, z2, by omega, by go_num, hs2, Lib.hid ?_, by rw [hE, List.length_append, lu]; omega, ?_, jT2⟩
            ·rw [hE, hT1, hA.out, List.append_assoc]
            ·exact hk2.bel _ _ (by omega) (hk1.bel _ _ (by omega) (hb.alloc (by omega) _))
           case measure => simp [intOf]; omega
          ·obtain rfl : k = t.bu.length := by omega
           have HAB : Hid (accB = zB ++ t.bu.flatMap fd) := Lib.hid (by rw [hA.out, List.take_length])
           clear hA hlt hnejB
           go_wp2_with fail
           go_at_call 50; refine (bS WB 2 5 _ #[.int .i64 t.ext, .int .i64 t.bud, .int .i64 t.start, .int .i64 t.rev, .int .i64 t.least] _ _ hs (by simp) (by decide) rfl hla2 (by omega) (by simp) (by simp)).mono ?_; rintro e w1 ⟨rfl, zT, hsT, HZT, hlT, hkT⟩; have hqT := hsT.lt; haveI jTT := hkT.blk (b := w.heap.size) (C := T) (t := 34) inferInstance hnejT
           have hbT := hkT.bel _ _ (by omega) hb
           go_wp2_with fail
           go_at_call 50; refine (pH WB 1 8 _ ((List.range 8).map t.fl) (some ⟨w.heap.size, 121, none⟩) 8 _ hsT (by decide) (by simp) hlT (by omega) (by simp) (HFL.out _ jTT) (fun b off e _ => by cases e; omega)).mono ?_; rintro e w1 ⟨rfl, zF, hsF, HZF, hlF, hkF⟩; have hqF := hsF.lt; haveI jTF := hkF.blk (b := w.heap.size) (C := T) (t := 34) inferInstance hnejT
           have hbF := hkF.bel _ _ (by omega) hbT
           go_wp2_with fail
           go_at_call 50; refine (bS WB 4 2 _ #[.int .i64 t.win, .int .i64 t.share] _ _ hsF (by simp) (by decide) rfl hlF (by omega) (by simp) (by simp)).mono ?_; rintro e w1 ⟨rfl, zW, hsW, HZW, hlW, hkW⟩; have hqW := hsW.lt; haveI jTW := hkW.blk (b := w.heap.size) (C := T) (t := 34) inferInstance hnejT
           have hbW := hkW.bel _ _ (by omega) hbF
           have hZB : zW = dw t := by
            rw [HZW.out, HZF.out, HZT.out, HAB.out, HZB.out, HAE.out, HZE.out, HAD.out, HZD.out, HZC.out, HAG.out, HZG.out, HA0.out, hZ0.out]
            simp [dw, intOf, List.append_assoc, List.flatMap_map]
           clear HZW HZF HZT HAB HZB HAE HZE HAD HZD HZC HAG HZG HA0 hZ0 hsT hsF hs hla hb iT hq hla2 hbs hbT hbF jTT jTF hlT hlF hqT hqF hkT hkF hkW
           obtain ⟨v, hwb, hown⟩ := hsW.out
           obtain ⟨oa, ocap, rfl, hby⟩ := hown.opened
           haveI iW : IsBlk w1 WB #[.slice oa zW.length ocap] 129 := ⟨hwb⟩
           have hbyt : aH zW := by rw [hZB]; exact jQ t
           have hzb : ∀ i, i < zW.length → db .u8 (zW.getD i 0) := fun i hi => by
            have : zW.getD i 0 ∈ zW := by rw [List.getD_eq_getElem?_getD, List.getElem?_eq_getElem hi]; exact List.getElem_mem _
            exact hbyt _ this
           have hof := rY oa zW.length ocap zW w1 rfl (by omega) hby hzb
           obtain ⟨sv, hsv⟩ : ∃ sv, V (eM 65535#16 zW) = sv := ⟨_, rfl⟩
           have hsb := xt (eM 65535#16 zW)
           rw [hsv] at hof hsb
           obtain ⟨hsb0, hsb1⟩ := hsb
           have HOF := Lib.hid (Up.run hof)
           have HFIN : Hid (zW ++ an 2 sv = fx t) := Lib.hid (by rw [hZB] at hsv ⊢; unfold fx ep fq; rw [hsv])
           clear hof hby hzb hbyt hown hwb hsv hZB
           go_wp2_with fail
           go_at_call 45; refine HOF.out.mono ?_; rintro e w' ⟨rfl, uc, rfl⟩
           have hsX := hsW.below uc.bel
           have hbX : Below w.heap.size w uc.w := hbW.trans (uc.bel.mono hbW.size)
           clear iW
           go_wp2_with fail
           go_at_call 50; refine (bS WB 2 1 _ #[.int .i64 sv] _ _ hsX (by simp) (by decide) rfl hlW (by omega) (by simp) (by simp)).mono ?_; rintro e w2 ⟨rfl, zY, hsY, HZY, hlY, hkY⟩
           have hbY := hkY.bel _ _ (by omega) hbX
           obtain ⟨v2, hwb2, hown2⟩ := hsY.out
           haveI iW2 : IsBlk w2 WB #[v2] 129 := ⟨hwb2⟩
           obtain ⟨oa2, ocap2, rfl, hby2⟩ := hown2.opened
           have hEN : zY = fx t := by rw [pJ HZY.out]; exact HFIN.out
           clear hby2 hwb2 HZY HFIN
           go_wp2_with fail
           go_returns
           exact ⟨_, rfl, by rw [← hEN]; exact hown2.weak (by omega), hbY⟩
end
end Go.Proofs.YtodgfjgljcinlaaGreat
