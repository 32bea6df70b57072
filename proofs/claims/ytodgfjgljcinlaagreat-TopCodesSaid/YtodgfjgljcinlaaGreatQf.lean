/- Part Qf of the proof: WirA, CodA, RdrA, RdrB, RdrC, RdrD, RdrE, RdrF, RdrG, RdrH, RdrI, RdrO, RdrJ, RdrK, RdrL, RdrM. -/
import Derived.Test.YtodgfjgljcinlaaGreatQd
import Derived.Test.YtodgfjgljcinlaaGreatQe
import Derived.Test.YtodgfjgljcinlaaGreatQa
import Derived.Laws.CopyOwn
import Derived.Lib.SliceRun
import Derived.Recover
import Derived.Defers
namespace Go.Proofs.YtodgfjgljcinlaaGreat
set_option maxHeartbeats 8000000
set_option maxRecDepth 100000
set_option linter.unusedVariables false
section
open Go.RowKit
attribute [local go_sem] IsBlk.cell IsBlk.frozen
theorem je : (Tryz.prog.info? 5).map (fun i => (i.zero, i.size, i.bytes)) = some (some (.int .u8 0), 1, 1) := by kernel_rfl
def yn (w : World) (base : Nat) (v : Value) (zs : List Int) : Prop := w.ownsRow base 5 1 v zs.length (zs.map (Value.int .u8))
theorem yn.nil (w : World) (base : Nat) : yn w base (.slice none 0 0) [] := ⟨rfl, .inl ⟨rfl, rfl⟩⟩
theorem yn.opened {w : World} {base : Nat} {v : Value} {zs : List Int} (h : yn w base v zs) : ∃ a cap, v = .slice a zs.length cap ∧ bj w a zs := by
 obtain ⟨hl, h⟩ := h
 rcases h with ⟨rfl, h0⟩ | ⟨g, cap, cur, rfl, _, hg, hc, _, hs, ht⟩
 ·exact ⟨none, 0, by rw [h0], .inl h0⟩
 ·refine ⟨_, cap, rfl, .inr ⟨g, 0, rfl, (Array.getElem?_eq_some_iff.1 hg).1, fun i hi => ?_⟩⟩
  have hx : cur[0 + i]? = some (.int .u8 (zs.getD i 0)) := by
   have this : (cur.toList.take (zs.length * 1))[i]? = (zs.map (Value.int .u8))[i]? := by rw [ht]
   rw [List.getElem?_take, if_pos (by omega)] at this
   rw [Nat.zero_add, ← Array.getElem?_toList, this]
   simp [List.getD, hi]
  exact aV hg _ hx
theorem yn.below {w w' : World} {base : Nat} {v : Value} {zs : List Int} (h : yn w base v zs) (hb : Below w.heap.size w w') : yn w' base v zs := by
 obtain ⟨h1, h⟩ := h
 refine ⟨h1, ?_⟩
 rcases h with h | ⟨g, cap, cur, e, hg, hc, h3, h4, h5, h6⟩
 ·exact .inl h
 ·exact .inr ⟨g, cap, cur, e, hg, by rw [hb.block _ (Array.getElem?_eq_some_iff.1 hc).1]; exact hc, h3, h4, h5, h6⟩
theorem yn.up {W : World} {base : Nat} {v : Value} {zs : List Int} (h : yn W base v zs) (u : Up W) : yn u.w base v zs := h.below u.bel
theorem yn.alloc {w : World} {base : Nat} {v : Value} {zs : List Int} (h : yn w base v zs) (o : Obj) : yn (w.alloc o) base v zs := h.below ((Below.refl _ _).alloc (Nat.le_refl _) o)
theorem gG {ops : Array Oper} {rest : List Oper} {o : Oper} {a : Act} {w : World} {Q : Exit → Act → World → Prop} (hgd : o.guard = none) (s x : Operand)
  (ho : o.op = .call { callee := .builtin .append, args := #[s, x], argTypes := #[22, 22] })
  (base : Nat) {v : Value} {zs : List Int} (hs : a.eval s = v) (hown : yn w base v zs)
  {b : Nat} {y : Int} (hx : a.eval x = .slice (some ⟨b, 0, none⟩) 1 1) (hc : w.cell? ⟨b, 0, none⟩ = some (.int .u8 y)) (hn : zs.length ≤ 1000000) (hbase : base ≤ w.heap.size)
  (h : ∀ v' w', yn w' base v' (zs ++ [y]) → w.grownBy w' v.ownBlock → wpList Tryz.prog ops Q rest (a.put o.dst v') w') : wpList Tryz.prog ops Q (o :: rest) a w := by
 obtain ⟨i0, hinfo, hz0, hz1, hz2⟩ := info_parts je
 refine wpList_append_own w hgd s x 22 ho base 5 i0 (.int .u8 0) 1 1 Tryz.underlying22 hinfo hz0 hz1 hz2 rfl (by decide) v zs.length _ hs hown ⟨b, 0, none⟩ 1 1 [.int .u8 y] hx rfl ?_ ?_ ?_ ?_ hbase (fun v' w' h1 h2 _ => h v' w' ?_ h2)
 ·intro j u hj; match j, hj with | 0, hj => simp at hj; subst hj; simp [Addr.add]; exact hc
 ·simp [Value.oneCell']
 ·unfold maxLen; omega
 ·omega
 ·unfold yn; simpa using h1
theorem yn.grown {B : Nat} {w0 wr w1 : World} {o : Obj} {v : Value} {zs : List Int} {base : Nat} (hown : yn wr base v zs) (hb : Below B w0 wr) (hB : B ≤ wr.heap.size) (hbase : B ≤ base) (hg : (wr.alloc o).grownBy w1 v.ownBlock) : Below B w0 w1 := by
 refine (hb.alloc hB o).grown hg (by simp; omega) (fun k hk => ?_)
 rcases hown.2 with ⟨rfl, _⟩ | ⟨g, cap, cur, rfl, hg, _⟩
 ·simp [Value.ownBlock] at hk
 ·simp [Value.ownBlock] at hk; omega
theorem re (n : Nat) : madeCells #[.int .u8 0] n = (List.replicate n (.int .u8 0)).toArray := by
 apply Array.ext
 ·rw [size_madeCells]; simp
 ·intro i h1 h2
  simp [madeCells, Nat.mod_one]
theorem mJ {α : Type} (L cs : List α) (n : Nat) (hn : n = cs.length) (h : cs.length ≤ L.length) : (splice L 0 cs).take n = cs := by
 subst hn
 unfold splice
 rw [List.take_zero, List.nil_append, List.take_append_of_le_length (Nat.le_refl _), List.take_length]
theorem rH (n : Int) (k : Nat) : IntKind.u8.wrap (n / 2 ^ (8 * k)) = eD n k := by
 unfold eD
 rw [show (2 : Int) ^ (8 * k) = 256 ^ k by rw [Int.pow_mul]; rfl]
 simp [IntKind.wrap, IntKind.bits, IntKind.signed]
theorem m5 (a : Option Addr) (cap : Nat) (zs : List Int) (size : Nat) (n : Int) (w : World) (hs8 : size ≤ 8) (hl : zs.length ≤ 100000) (hi : bj w a zs) :
  Calls Tryz.prog 141 #[.slice a zs.length cap, .int .i64 size, .int .i64 n] w fun e w' => ∃ v, e = .returned v ∧ yn w' w.heap.size v (zs ++ an size n) ∧ Below w.heap.size w w' := by
 obtain ⟨i0, hinfo, hz0, hs0, hb0⟩ := info_parts je
 have hmk : ∀ w : World, (Instr.makeSlice 22 (.int .i64 (zs.length : Int)) (.int .i64 ((zs.length : Int) + (size : Int)))).run Tryz.prog w = .ok (.slice (some ⟨w.heap.size, 0, none⟩) zs.length (zs.length + size)) (w.alloc (.cells (madeCells #[.int .u8 0] (zs.length + size)) 5)) := fun w => by
  have := run_makeSlice (P := Tryz.prog) w 22 5 i0 (.int .u8 0) Tryz.underlying22 hinfo hz0 .i64 .i64 (zs.length : Int) ((zs.length : Int) + (size : Int)) (by omega) (by omega) (by rw [hs0]; omega) (by rw [hb0]; omega) (by omega)
  rw [hs0] at this
  simpa [Value.cells, show ((zs.length : Int) + (size : Int)).toNat = zs.length + size by omega] using this
 clear hinfo hz0 hs0 hb0
 have HI := Lib.hid hi
 have hsI : (size : Int) ≤ 8 := by omega
 clear hi
 go_enter Tryz.func141, Tryz.ntmps141
 obtain ⟨cs, hcs⟩ : ∃ cs, cs = zs.map (Value.int .u8) := ⟨_, rfl⟩
 have hcl : cs.length = zs.length := by rw [hcs]; simp
 have HCS := Lib.hid hcs
 have hpos : 0 < cs.length → ∃ ad, a = some ad ∧ ∀ (W : World), Below w.heap.size w W → ∀ j v, cs[j]? = some v → W.cell? (ad.add j) = some v := fun h0 => by
  obtain ⟨b, off, rfl, hb, hc⟩ := HI.out.cell (by omega)
  refine ⟨_, rfl, fun W hW j v hv => ?_⟩
  rw [hcs, List.getElem?_map] at hv
  obtain ⟨x, hx, rfl⟩ := Option.map_eq_some_iff.1 hv
  have hj := (List.getElem?_eq_some_iff.1 hx).1
  rw [Addr.add_mid, hW.cell (p := ⟨b, off + j, none⟩) hb, hc j hj]
  simp [List.getD, hx]
 have HPOS := Lib.hid hpos
 clear hcs hpos
 go_wp2_with (refine wpList_copy_splice (elem := 5) rfl _ _ 22 22 rfl Tryz.underlying22 (by kernel_rfl) (some ⟨w.heap.size, 0, none⟩) a zs.length (zs.length + size) zs.length cap rfl rfl w.heap.size 0 (List.replicate (zs.length + size) (.int .u8 0)) 5 (by rw [← re]; exact aq _ _) cs (by rw [hcl]; simp) (fun h0 => ⟨rfl, by obtain ⟨ad, h1, h2⟩ := HPOS.out h0; exact ⟨ad, h1, h2 _ (by exact yd)⟩⟩) (by simp [hcl]) (fun v hv => by rw [HCS.out] at hv; obtain ⟨x, _, rfl⟩ := List.mem_map.1 hv; rfl) w.heap.size w (by exact yd) (Nat.le_refl _) ?_; intro w2 HG2 hB2)
 have hown : yn w2 w.heap.size (.slice (some ⟨w.heap.size, 0, none⟩) zs.length (zs.length + size)) zs := by
  refine ⟨by simp, .inr ⟨w.heap.size, zs.length + size, (splice (List.replicate (zs.length + size) (.int .u8 0)) 0 cs).toArray, rfl, Nat.le_refl _, HG2.out, by omega, by unfold maxLen; omega, ?_, ?_⟩⟩
  ·rw [List.size_toArray, length_splice _ _ _ (by simp [hcl])]; simp
  ·rw [List.toList_toArray, mJ _ _ _ (by rw [hcl]; omega) (by simp [hcl]), HCS.out]
 clear HG2 HPOS hmk HI
 go_loopw [7, 8] (fun out i wr => ∃ (k : Nat) (acc : List Int), k ≤ size ∧ i = .int .i64 ((k : Int) - 1) ∧ yn wr w.heap.size out acc ∧ Hid (acc ++ an k n = zs ++ an size n) ∧ acc.length ≤ zs.length + size ∧ Below w.heap.size w wr) (fun _ i _ => (intOf i + 1).toNat)
 case atStart => exact ⟨size, zs, Nat.le_refl _, rfl, hown, Lib.hid rfl, by omega, hB2⟩
 case round =>
  obtain ⟨k, acc, hk, rfl, hown, hAC, hla, hb⟩ := hrel
  haveI : LeSize w.heap.size wr := ⟨hb.size⟩
  have hb0 := hb.size
  match k, hk, hAC with
  | 0, hk, hAC =>
   have HE : Hid (acc = zs ++ an size n) := Lib.hid (by rw [← hAC.out]; simp [an])
   clear hAC
   go_wp2
   go_ret
   exact ⟨_, rfl, by rw [← HE.out]; exact hown, hb⟩
  | j + 1, hk, hAC =>
   have hj : ((j + 1 : Nat) : Int) - 1 = (j : Int) := by omega
   rw [hj]
   have hj8 : (j : Int) ≤ 7 := by omega
   have h8 : (8 * (j : Int)).toNat = 8 * j := by omega
   have hby := rH n j
   have HAC : Hid ((acc ++ [eD n j]) ++ an j n = zs ++ an size n) := Lib.hid (by rw [← hAC.out]; simp [an])
   obtain ⟨oa, ocap, rfl, hoi⟩ := hown.opened
   clear hAC hj
   have hfl : acc.length ≤ 1000000 := by omega
   have hbs : w.heap.size ≤ (wr.alloc (.cells #[.int .u8 (eD n j)] 5)).heap.size := by rw [World.size_alloc]; omega
   have HOW := Lib.hid hown
   clear hown hoi
   go_wp2_with (at_builtin; refine gG rfl _ _ rfl w.heap.size rfl (HOW.out.alloc _) (b := wr.heap.size) (y := eD n j) rfl (by rw [World.cell?_alloc_at _ _ _ _ rfl]; rfl) hfl hbs ?_; intro v' w1 hown' hg)
   have hb1 := HOW.out.grown hb hb0 (Nat.le_refl _) hg
   go_roundw
   case rel => exact ⟨j, acc ++ [eD n j], by omega, by go_num, hown', HAC, by have := congrArg List.length HAC.out; simp [aA] at this; simp; omega, hb1⟩
   case measure => first | (simp [intOf]; done) | (simp [intOf]; omega)
theorem ox (x : Nat) : an 8 (wrap64 (x : Int)) = eO x := by
 unfold eO
 rw [← jo (wrap64 (x : Int)) 8 8 (Nat.le_refl _), ← jo (x : Int) 8 8 (Nat.le_refl _)]
 congr 1
 unfold wrap64
 simp
theorem qQ (a : Option Addr) (cap : Nat) (zs : List Int) (x : Nat) (w : World) (hl : zs.length ≤ 100000) (hi : bj w a zs) :
  Calls Tryz.prog 142 #[.slice a zs.length cap, .float .f64 x] w fun e w' => ∃ v, e = .returned v ∧ yn w' w.heap.size v (zs ++ eO x) ∧ Below w.heap.size w w' := by
 have HI := Lib.hid hi
 clear hi
 have h1 := jr x w
 have hf := ox x
 have HF := Lib.hid hf
 clear hf
 go_enter Tryz.func142, Tryz.ntmps142
 go_wp2_with (go_at_call 141; refine (m5 _ _ zs 8 _ _ (by omega) hl HI.out).mono ?_; rintro e w' ⟨v, rfl, ho, hb⟩)
 go_ret
 exact ⟨_, rfl, by rw [← HF.out]; exact ho, hb⟩
end
section
open Go.RowKit
attribute [local go_sem] IsBlk.cell IsBlk.frozen
structure WrS (WB : Nat) (W : World) (zs : List Int) : Prop where
 out : ∃ v, W.heap[WB]? = some (.cells #[v] 129) ∧ yn W (WB + 1) v zs
structure Kp (WB : Nat) (W W' : World) : Prop where
 size : W.heap.size ≤ W'.heap.size
 same : ∀ j, j ≠ WB → j < W.heap.size → W'.heap[j]? = W.heap[j]?
 bel : ∀ B w0, B ≤ WB → Below B w0 W → Below B w0 W'
theorem Kp.refl (WB : Nat) (W : World) : Kp WB W W := ⟨Nat.le_refl _, fun _ _ _ => rfl, fun _ _ _ h => h⟩
theorem Kp.trans {WB : Nat} {A B C : World} (h : Kp WB A B) (k : Kp WB B C) : Kp WB A C := ⟨Nat.le_trans h.size k.size, fun j h1 h2 => (k.same j h1 (Nat.lt_of_lt_of_le h2 h.size)).trans (h.same j h1 h2), fun B w0 hB hb => k.bel B w0 hB (h.bel B w0 hB hb)⟩
theorem Kp.of {WB : Nat} {W W' : World} (h : Below W.heap.size W W') (hWB : WB < W.heap.size) : Kp WB W W' := ⟨h.size, fun j _ hj => h.block j hj, fun B w0 hB hb => hb.trans (h.mono (by omega))⟩
theorem Kp.set {WB : Nat} {W : World} (i : Nat) (v : Value) : Kp WB W (W.setCell ⟨WB, i, none⟩ v) := ⟨by simp [World.setCell], fun j h1 _ => Below.heap_setCell _ _ _ _ h1, fun B w0 hB hb => hb.setCell (p := ⟨WB, i, none⟩) hB v⟩
theorem Kp.alloc {WB : Nat} {W W' : World} (o : Obj) (h : Kp WB (W.alloc o) W') (hWB : WB < W.heap.size) : Kp WB W W' := (Kp.of ((Below.refl _ _).alloc (Nat.le_refl _) o) hWB).trans h
theorem Kp.blk {WB : Nat} {W W' : World} {b : Nat} {C : Array Value} {t : TypeId} (k : Kp WB W W') (h : IsBlk W b C t) (hb : b ≠ WB) : IsBlk W' b C t := ⟨(k.same b hb (Array.getElem?_eq_some_iff.1 h.out).1).trans h.out⟩
theorem WrS.lt {WB : Nat} {W : World} {zs : List Int} (h : WrS WB W zs) : WB < W.heap.size := by obtain ⟨v, h, _⟩ := h.out; exact (Array.getElem?_eq_some_iff.1 h).1
theorem WrS.below {WB : Nat} {W W' : World} {zs : List Int} (h : WrS WB W zs) (hb : Below W.heap.size W W') : WrS WB W' zs := by
 have hl := h.lt
 obtain ⟨v, h1, h2⟩ := h.out
 exact ⟨v, (hb.block _ hl).trans h1, h2.below hb⟩
theorem WrS.alloc {WB : Nat} {W : World} {zs : List Int} (h : WrS WB W zs) (o : Obj) : WrS WB (W.alloc o) zs := h.below ((Below.refl _ _).alloc (Nat.le_refl _) o)
theorem WrS.put {WB : Nat} {W W' : World} {zs xs : List Int} {v : Value} (h : WrS WB W zs) (hb : Below W.heap.size W W') (hv : yn W' W.heap.size v xs) : WrS WB (W'.setCell ⟨WB, 0, none⟩ v) xs := by
 have hl := h.lt
 obtain ⟨u, h1, _⟩ := h.out
 refine ⟨v, ?_, ?_⟩
 ·have := ao (w := W') (b := WB) (C := #[u]) (t := 129) ((hb.block _ hl).trans h1) 0 v
  simpa using this
 ·obtain ⟨e1, e2⟩ := hv
  refine ⟨e1, ?_⟩
  rcases e2 with e2 | ⟨g, cap, cur, e, hg, hc, h3, h4, h5, h6⟩
  ·exact .inl e2
  ·exact .inr ⟨g, cap, cur, e, by omega, by rw [Below.heap_setCell _ _ _ _ (by show g ≠ WB; omega)]; exact hc, h3, h4, h5, h6⟩
theorem qM {l : List Int} {k : Nat} (h : k < l.length) (f : Int → List Int) : (l.take (k + 1)).flatMap f = (l.take k).flatMap f ++ f (l.getD k 0) := by
 rw [List.take_succ_eq_append_getElem h, List.flatMap_append]
 simp [List.getD, h]
theorem jz (WB size : Nat) (zs l : List Int) (la : Option Addr) (lc : Nat) (W : World) (hs8 : size ≤ 8) (hl : zs.length + l.length * 8 ≤ 100000) (hs : WrS WB W zs) (hi : bQ W la l) (hne : ∀ b off, la = some ⟨b, off, none⟩ → 0 < l.length → b ≠ WB) :
  Calls Tryz.prog 50 #[.pointer (some ⟨WB, 0, none⟩), .int .i64 size, .slice la l.length lc] W fun e w' => e = .returned (.tuple #[]) ∧ WrS WB w' (zs ++ l.flatMap (an size)) ∧ Kp WB W w' := by
 have HI := Lib.hid hi
 have HNE := Lib.hid hne
 have HS := Lib.hid hs
 have hWB := hs.lt
 clear hi hne hs
 go_enter Tryz.func50, Tryz.ntmps50
 go_wp2
 go_loopw [10] (fun i wr => ∃ k : Nat, k ≤ l.length ∧ i = .int .i64 k ∧ WrS WB wr (zs ++ (l.take k).flatMap (an size)) ∧ Kp WB W wr) (fun i _ => l.length - (intOf i).toNat)
 case atStart => exact ⟨0, Nat.zero_le _, rfl, by simpa using HS.out, Kp.refl _ _⟩
 case round =>
  obtain ⟨k, hk, rfl, hws, hkp⟩ := hrel
  by_cases hlt : k < l.length
  ·have hkI : (k : Int) < l.length := by omega
   obtain ⟨b, off, rfl, hbl, hc⟩ := HI.out.cell (by omega)
   have hcell : wr.cell? ⟨b, off + k, none⟩ = some (.int .i64 (l.getD k 0)) := by
    have h1 := hc k hlt
    unfold World.cell? at h1 ⊢
    rw [hkp.same b (HNE.out _ _ rfl (by omega)) hbl]; exact h1
   have HFT := Lib.hid (qM hlt (an size))
   generalize l.getD k 0 = x at *
   have hlen : (zs ++ (l.take k).flatMap (an size)).length ≤ 100000 := by
    rw [List.length_append, yt _ size (fun x => aA size x), List.length_take]
    have : min k l.length * size ≤ l.length * 8 := Nat.mul_le_mul (Nat.min_le_right _ _) hs8
    omega
   have HWS := Lib.hid hws
   have HKP := Lib.hid hkp
   obtain ⟨v, hwb, hown⟩ := hws.out
   obtain ⟨a, cap, rfl, hby⟩ := hown.opened
   haveI iW : IsBlk wr WB #[.slice a (zs ++ (l.take k).flatMap (an size)).length cap] 129 := ⟨hwb⟩
   have lW := iW.le
   have HBY := Lib.hid hby
   clear hwb hown hby hws hkp hc
   generalize hacc : zs ++ (l.take k).flatMap (an size) = acc at *
   have HACC := Lib.hid hacc
   clear hacc
   go_wp2_with (go_at_call 141; refine (m5 _ _ acc size _ _ hs8 hlen HBY.out).mono ?_; rintro e w' ⟨v2, rfl, ho, hb⟩; obtain ⟨a2, cap2, rfl, hby2⟩ := ho.opened; obtain ⟨u2, rfl⟩ : ∃ u2 : Up wr, w' = u2.w := ⟨⟨w', hb⟩, rfl⟩)
   have hw2 := HWS.out.put u2.bel ho
   rw [List.length_append] at hw2
   have hk2 : Kp WB wr (u2.w.setCell ⟨WB, 0, none⟩ (.slice a2 (acc.length + (an size x).length) cap2)) := (Kp.of u2.bel HWS.out.lt).trans (Kp.set 0 _)
   go_roundw
   case rel => exact ⟨k + 1, by omega, by go_num, by rw [HFT.out, ← List.append_assoc, HACC.out]; exact hw2, HKP.out.trans hk2⟩
   case measure => simp [intOf]; omega
  ·obtain rfl : k = l.length := by omega
   rw [List.take_length] at hws
   go_wp2
   go_returns
   exact ⟨rfl, hws, hkp⟩
theorem tC (W : World) (cs : Array Value) (t : TypeId) (h : cs.all (fun v => match v with | .int .i64 _ => true | _ => false) = true) : bQ (W.alloc (.cells cs t)) (some ⟨W.heap.size, 0, none⟩) (cs.toList.map intOf) := by
 refine cU _ rfl ?_
 rw [List.map_map]
 apply Array.ext'
 simp only
 rw [List.map_congr_left (g := id) (fun v hv => ?_), List.map_id]
 have := Array.all_eq_true'.1 h v (by simpa using hv)
 match v, this with
 | .int .i64 n, _ => rfl
theorem gJ (WB size n : Nat) (cs : Array Value) (zs : List Int) (W : World) (hs : WrS WB W zs) (hs8 : size ≤ 8) (hn : n = cs.size) (hl : zs.length ≤ 99000) (hc : cs.size ≤ 100) (h : cs.all (fun v => match v with | .int .i64 _ => true | _ => false) = true) :
  Calls Tryz.prog 50 #[.pointer (some ⟨WB, 0, none⟩), .int .i64 size, .slice (some ⟨W.heap.size, 0, none⟩) n n] (W.alloc (.cells cs 3)) fun e w' => e = .returned (.tuple #[]) ∧ WrS WB w' (zs ++ (cs.toList.map intOf).flatMap (an size)) ∧ Kp WB W w' := by
 subst hn
 have hlt := hs.lt
 have := jz WB size zs (cs.toList.map intOf) (some ⟨W.heap.size, 0, none⟩) cs.size (W.alloc (.cells cs 3)) hs8 (by simp; omega) (hs.alloc _) (tC W cs _ h) (fun b off e _ => by cases e; omega)
 rw [List.length_map, Array.length_toList] at this
 exact this.mono fun e w' ⟨h1, h2, h3⟩ => ⟨h1, h2, h3.alloc _ hlt⟩
def d9 : Value → Bool
 | .bool b => b
 | _ => false
theorem rW (WB : Nat) (zs : List Int) (l : List Bool) (la : Option Addr) (lc : Nat) (W : World) (hl : zs.length + l.length ≤ 90000) (hs : WrS WB W zs) (hi : abS W la l) (hne : ∀ b off, la = some ⟨b, off, none⟩ → 0 < l.length → b ≠ WB) :
  Calls Tryz.prog 51 #[.pointer (some ⟨WB, 0, none⟩), .slice la l.length lc] W fun e w' => e = .returned (.tuple #[]) ∧ WrS WB w' (zs ++ (l.map fF).flatMap (an 1)) ∧ Kp WB W w' := by
 have HI := Lib.hid hi
 have HNE := Lib.hid hne
 have HS := Lib.hid hs
 clear hi hne hs
 go_enter Tryz.func51, Tryz.ntmps51
 go_wp2
 go_loopw [9] (fun i wr => ∃ k : Nat, k ≤ l.length ∧ i = .int .i64 k ∧ WrS WB wr (zs ++ ((l.take k).map fF).flatMap (an 1)) ∧ Kp WB W wr) (fun i _ => l.length - (intOf i).toNat)
 case atStart => exact ⟨0, Nat.zero_le _, rfl, by simpa using HS.out, Kp.refl _ _⟩
 case round =>
  obtain ⟨k, hk, rfl, hws, hkp⟩ := hrel
  by_cases hlt : k < l.length
  ·have hkI : (k : Int) < l.length := by omega
   obtain ⟨b, off, rfl, hbl, hc⟩ := HI.out.cell (by omega)
   have hcell : wr.cell? ⟨b, off + k, none⟩ = some (.bool (l.getD k false)) := by
    have h1 := hc k hlt
    unfold World.cell? at h1 ⊢
    rw [hkp.same b (HNE.out _ _ rfl (by omega)) hbl]; exact h1
   have hft : ((l.take (k + 1)).map fF).flatMap (an 1) = ((l.take k).map fF).flatMap (an 1) ++ an 1 (fF (l.getD k false)) := by
    rw [List.take_succ_eq_append_getElem hlt, List.map_append, List.flatMap_append]
    simp [List.getD, hlt]
   have HFT := Lib.hid hft
   have hlen : (zs ++ ((l.take k).map fF).flatMap (an 1)).length ≤ 99000 := by
    rw [List.length_append, yt _ 1 (fun x => aA 1 x), List.length_map, List.length_take]
    omega
   have HWS := Lib.hid hws
   have HKP := Lib.hid hkp
   generalize l.getD k false = x at *
   clear hws hkp hc hft
   generalize hacc : zs ++ ((l.take k).map fF).flatMap (an 1) = acc at *
   have HACC := Lib.hid hacc
   clear hacc
   cases x
   ·go_wp2_with (go_at_call 50; refine (gJ WB 1 1 #[.int .i64 0] acc _ HWS.out (by omega) rfl hlen (by simp) (by simp)).mono ?_; rintro e w' ⟨rfl, hw2, hk2⟩)
    go_roundw
    case rel => exact ⟨k + 1, by omega, by go_num, by rw [HFT.out, ← List.append_assoc, HACC.out]; exact hw2, HKP.out.trans hk2⟩
    case measure => simp [intOf]; omega
   ·go_wp2_with (go_at_call 50; refine (gJ WB 1 1 #[.int .i64 1] acc _ HWS.out (by omega) rfl hlen (by simp) (by simp)).mono ?_; rintro e w' ⟨rfl, hw2, hk2⟩)
    go_roundw
    case rel => exact ⟨k + 1, by omega, by go_num, by rw [HFT.out, ← List.append_assoc, HACC.out]; exact hw2, HKP.out.trans hk2⟩
    case measure => simp [intOf]; omega
  ·obtain rfl : k = l.length := by omega
   rw [List.take_length] at hws
   go_wp2
   go_returns
   exact ⟨rfl, hws, hkp⟩
end
section
open Go.RowKit
attribute [local go_sem] IsBlk.cell IsBlk.frozen
theorem oC (a : Option Addr) (cap : Nat) (zs : List Int) (w : World) (hl : zs.length ≤ 100000) (hi : bj w a zs) :
  Calls Tryz.prog 118 #[.slice a zs.length cap] w fun e w' => ∃ v, e = .returned v ∧ yn w' w.heap.size v zs ∧ Below w.heap.size w w' := by
 obtain ⟨i0, hinfo, hz0, hz1, hz2⟩ := info_parts je
 have q22 : ∀ (w : World) (a : Option Addr) (n c n' c' : Nat), (binOp .eql 22 (.slice a n c) (.slice none n' c')).run Tryz.prog w = .ok (.bool a.isNone) w := fun w a n c n' c' => Lib.run_eql_slice_nil w _ _ a n c n' c' Tryz.underlying22
 have HI := Lib.hid hi
 clear hi
 cases a with
 | none =>
  have h0 : zs = [] := by
   rcases HI.out with h | ⟨b, off, h, _⟩
   ·exact List.eq_nil_of_length_eq_zero h
   ·cases h
  subst h0
  go_enter Tryz.func118, Tryz.ntmps118
  go_wp2
  go_ret
  exact ⟨_, rfl, yn.nil _ _, Below.refl _ _⟩
 | some ad =>
  go_enter Tryz.func118, Tryz.ntmps118
  go_wp2_with (at_builtin; refine wpList_append_own _ rfl _ _ 22 rfl w.heap.size 5 i0 (.int .u8 0) 1 1 Tryz.underlying22 hinfo hz0 hz1 hz2 rfl (by decide) _ _ _ rfl (World.ownsRow_made w #[] 0 (Nat.le_refl _) (Nat.zero_le _) rfl) ad zs.length cap (zs.map (Value.int .u8)) rfl (by simp) ?q1 ?q2 ?q3 ?q4 ?q5 ?_)
  case q1 =>
   intro j u hj
   rw [List.getElem?_map] at hj
   obtain ⟨x, hx, rfl⟩ := Option.map_eq_some_iff.1 hj
   have hjl := (List.getElem?_eq_some_iff.1 hx).1
   obtain ⟨b, off, e, hb, hc⟩ := HI.out.cell (by omega)
   cases e
   rw [Addr.add_mid, World.cell?_alloc_past _ _ _ hb, hc j hjl]
   simp [List.getD, hx]
  case q2 => intro u hu; obtain ⟨x, _, rfl⟩ := List.mem_map.1 hu; rfl
  case q3 => unfold maxLen; omega
  case q4 => omega
  case q5 => simp
  intro v' w1 hown hgrow hnil
  go_wp2
  go_ret
  refine ⟨v', rfl, by simpa [yn] using hown, ?_⟩
  exact ((Below.refl _ w).alloc (Nat.le_refl _) _).grown hgrow (by simp) (by intro k hk; simp [Value.ownBlock] at hk; omega)
def vN (a : Option Addr) (n cap : Nat) (p c f : Int) : Array Value := #[.slice a n cap, .int .i64 p, .int .i64 c, .int .i64 f]
structure RdS (R : Nat) (W : World) (a : Option Addr) (cap : Nat) (s : List Int) (p c f : Int) : Prop where
 blk : W.heap[R]? = some (.cells (vN a s.length cap p c f) 179)
 byt : bj W a s
 ne : ∀ b off, a = some ⟨b, off, none⟩ → 0 < s.length → b ≠ R
 cp : s.length ≤ cap
theorem yn.cap {w : World} {base : Nat} {a : Option Addr} {n cap : Nat} {zs : List Int} (h : yn w base (.slice a n cap) zs) : zs.length ≤ cap := by
 obtain ⟨_, h⟩ := h
 rcases h with ⟨e, h0⟩ | ⟨g, cap, cur, e, hg, hc, h3, h4, h5, h6⟩
 ·omega
 ·cases e; exact h3
theorem RdS.lt {R : Nat} {W : World} {a : Option Addr} {cap : Nat} {s : List Int} {p c f : Int} (h : RdS R W a cap s p c f) : R < W.heap.size := (Array.getElem?_eq_some_iff.1 h.blk).1
theorem bj.kp {WB : Nat} {W W' : World} {a : Option Addr} {l : List Int} (h : bj W a l) (k : Kp WB W W') (hne : ∀ b off, a = some ⟨b, off, none⟩ → 0 < l.length → b ≠ WB) : bj W' a l := by
 rcases h with h | ⟨b, off, rfl, hb, hc⟩
 ·exact .inl h
 ·by_cases h0 : l.length = 0
  ·exact .inl h0
  ·refine .inr ⟨b, off, rfl, Nat.lt_of_lt_of_le hb k.size, fun i hi => ?_⟩
   have h1 := hc i hi
   unfold World.cell? at h1 ⊢
   rw [k.same b (hne _ _ rfl (by omega)) hb]; exact h1
theorem RdS.to {R : Nat} {W W' : World} {a : Option Addr} {cap : Nat} {s : List Int} {p c f p' c' f' : Int} (h : RdS R W a cap s p c f) (k : Kp R W W') (hb : W'.heap[R]? = some (.cells (vN a s.length cap p' c' f') 179)) : RdS R W' a cap s p' c' f' := ⟨hb, h.byt.kp k h.ne, h.ne, h.cp⟩
theorem RdS.below {R : Nat} {W W' : World} {a : Option Addr} {cap : Nat} {s : List Int} {p c f : Int} (h : RdS R W a cap s p c f) (hb : Below W.heap.size W W') : RdS R W' a cap s p c f := h.to (Kp.of hb h.lt) ((hb.block _ h.lt).trans h.blk)
theorem jh (R : Nat) (W : World) (a : Option Addr) (cap : Nat) (s : List Int) (p c f : Int) (h : RdS R W a cap s p c f) :
  Calls Tryz.prog 44 #[.pointer (some ⟨R, 0, none⟩)] W fun e w' => e = .returned (.int .i64 p) ∧ W = w' := by
 haveI i : IsBlk W R #[.slice a s.length cap, .int .i64 p, .int .i64 c, .int .i64 f] 179 := ⟨h.blk⟩
 go_enter Tryz.func44, Tryz.ntmps44
 go_wp2
 go_ret
 exact ⟨rfl, rfl⟩
theorem ij (R : Nat) (W : World) (a : Option Addr) (cap : Nat) (s : List Int) (p : Nat) (c f : Int) (h : RdS R W a cap s p c f) (hl : s.length ≤ 100000) (hp : p ≤ s.length) :
  Calls Tryz.prog 46 #[.pointer (some ⟨R, 0, none⟩)] W fun e w' => e = .returned (.int .i64 ((s.length - p : Nat) : Int)) ∧ Below W.heap.size W w' := by
 haveI i : IsBlk W R #[.slice a s.length cap, .int .i64 p, .int .i64 c, .int .i64 f] 179 := ⟨h.blk⟩
 have hpI : (p : Int) ≤ s.length := by omega
 have hlI : (s.length : Int) ≤ 100000 := by omega
 go_enter Tryz.func46, Tryz.ntmps46
 go_wp2
 (refine ai (by kernel_rfl) (by kernel_rfl) ?_; (repeat (first | go_big_quiet_step ((first | fail)))); refine wpQuiet_nil ?_; rintro _ ⟨u, rfl⟩)
 go_wp2
 go_ret
 exact ⟨bU (by omega), by exact yd⟩
def dt (c f : Int) : Value := .agg #[.int .i64 c, .int .i64 f]
theorem jS (R : Nat) (W : World) (a : Option Addr) (cap : Nat) (s : List Int) (p c f : Int) (h : RdS R W a cap s p c f) :
  Calls Tryz.prog 171 #[.pointer (some ⟨R, 0, none⟩)] W fun e w' => e = .returned (dt c f) ∧ Below W.heap.size W w' := by
 haveI i : IsBlk W R #[.slice a s.length cap, .int .i64 p, .int .i64 c, .int .i64 f] 179 := ⟨h.blk⟩
 have l := i.le
 unfold dt
 go_enter Tryz.func171, Tryz.ntmps171
 go_wp2
 go_returns
 exact ⟨rfl, by exact yd⟩
end
section
open Go.RowKit
attribute [local go_sem] IsBlk.cell IsBlk.frozen
def aW (c f : Int) : Ending := .panicked [{ v := .iface 37 (dt c f), recovered := false }]
theorem kh (R : Nat) (W : World) (a : Option Addr) (cap : Nat) (s : List Int) (p code at' : Int) (h : RdS R W a cap s p 0 0) :
  Calls Tryz.prog 170 #[.pointer (some ⟨R, 0, none⟩), .int .i64 code, .int .i64 at'] W fun e w' => e = aW code at' ∧ RdS R w' a cap s p code at' ∧ Kp R W w' := by
 haveI i : IsBlk W R #[.slice a s.length cap, .int .i64 p, .int .i64 0, .int .i64 0] 179 := ⟨h.blk⟩
 have l := i.le
 have H := Lib.hid h
 clear h
 unfold aW dt
 go_enter Tryz.func170, Tryz.ntmps170
 go_wp2
 have hk : Kp R W ((W.setCell ⟨R, 2, none⟩ (.int .i64 code)).setCell ⟨R, 3, none⟩ (.int .i64 at')) := (Kp.set 2 _).trans (Kp.set 3 _)
 refine ⟨rfl, rfl, H.out.to hk ?_, hk⟩
 exact (ao (ao i.out 2 _) 3 _).trans (by simp only [List.setIfInBounds_toArray, List.set_cons_succ, List.set_cons_zero, vN])
theorem tG (R : Nat) (W : World) (b off cap : Nat) (s : List Int) (p k : Nat) (h : RdS R W (some ⟨b, off, none⟩) cap s p 0 0) (hl : s.length ≤ 100000) (hp : p + k ≤ s.length) (hk1 : 1 ≤ k) (hcp : cap ≤ 9223372036854775807) :
  Calls Tryz.prog 206 #[.pointer (some ⟨R, 0, none⟩), .int .i64 k] W fun e w' => e = .returned (.slice (some ⟨b, off + p, none⟩) k (cap - p)) ∧ Below W.heap.size W w' := by
 haveI i : IsBlk W R #[.slice (some ⟨b, off, none⟩) s.length cap, .int .i64 p, .int .i64 0, .int .i64 0] 179 := ⟨h.blk⟩
 have l := i.le
 have hcp2 := h.cp
 have HL := Lib.hid (Up.run (ij R W _ cap s p 0 0 h hl (by omega)))
 have hlt : ¬ ((s.length - p : Nat) : Int) < k := by omega
 generalize hn : ((s.length - p : Nat) : Int) = nl at *
 clear hn h
 go_enter Tryz.func206, Tryz.ntmps206
 go_wp2_with (go_at_call 46; refine HL.out.mono ?_; rintro e w' ⟨rfl, u, rfl⟩)
 have hI1 : (p : Int) + k ≤ cap := by omega
 have hI2 : (p : Int) < cap := by omega
 have hI3 : (1 : Int) ≤ k := by omega
 have hI4 : (cap : Int) ≤ 9223372036854775807 := by omega
 (refine ai (by kernel_rfl) (by kernel_rfl) ?_; (repeat (first | go_big_quiet_step ((first | fail)))); refine wpQuiet_nil ?_; rintro _ ⟨u, rfl⟩)
 go_wp2
 rw [show p + k - p = k by omega]
 go_ret
 exact ⟨rfl, by exact yd⟩
theorem rT (R : Nat) (W : World) (a : Option Addr) (cap : Nat) (s : List Int) (p k : Nat) (h : RdS R W a cap s p 0 0) (hl : s.length ≤ 100000) (hp : p ≤ s.length) (hk : s.length < p + k) :
  Calls Tryz.prog 206 #[.pointer (some ⟨R, 0, none⟩), .int .i64 k] W fun e w' => e = aW 2 s.length ∧ RdS R w' a cap s p 2 s.length ∧ Kp R W w' := by
 haveI i : IsBlk W R #[.slice a s.length cap, .int .i64 p, .int .i64 0, .int .i64 0] 179 := ⟨h.blk⟩
 have l := i.le
 have H := Lib.hid h
 have HL := Lib.hid (Up.run (ij R W _ cap s p 0 0 h hl (by omega)))
 have hlt : ((s.length - p : Nat) : Int) < k := by omega
 generalize hn : ((s.length - p : Nat) : Int) = nl at *
 clear hn h
 unfold aW dt
 go_enter Tryz.func206, Tryz.ntmps206
 go_wp2_with (first | (go_at_call 46; refine HL.out.mono ?_; rintro e w' ⟨rfl, u, rfl⟩) | (go_at_call 170; refine (kh R _ a cap s p 2 s.length (H.out.below u.bel)).mono ?_; rintro e w2 ⟨he, hr2, hk2⟩; unfold aW dt at he; subst he))
 exact ⟨rfl, rfl, hr2, (Kp.of u.bel H.out.lt).trans hk2⟩
end
section
open Go.RowKit
attribute [local go_sem] IsBlk.cell IsBlk.frozen
def yy (s : List Int) (p k : Nat) : List Int := (s.drop p).take k
theorem j8 {s : List Int} {p k : Nat} (h : p + k ≤ s.length) : (yy s p k).length = k := by unfold yy; simp; omega
theorem tw {s : List Int} {p k j : Nat} (h : p + k ≤ s.length) (hj : j < k) : (yy s p k).getD j 0 = s.getD (p + j) 0 := by
 unfold yy
 simp only [List.getD_eq_getElem?_getD, List.getElem?_take, hj, if_true, List.getElem?_drop]
theorem ic {s : List Int} (h : aH s) (p k : Nat) : aH (yy s p k) := fun x hx => h x (List.mem_of_mem_drop (List.mem_of_mem_take hx))
theorem pX {l : List Int} {j : Nat} (hj : j < l.length) : bg 0 (l.take (j + 1)) = bg 0 (l.take j) * 256 + l.getD j 0 := by
 rw [List.take_succ_eq_append_getElem hj, mD]
 simp [bg, List.getD, hj]
theorem qw (x y : Int) : bits .or .u64 x y = IntKind.u64.wrap (((x % 18446744073709551616).toNat ||| (y % 18446744073709551616).toNat : Nat) : Int) := by
 rfl
theorem uq {v x : Int} (hv0 : 0 ≤ v) (hv1 : v < 72057594037927936) (hx0 : 0 ≤ x) (hx1 : x ≤ 255) : bits .or .u64 (v * 256) x = v * 256 + x := by
 obtain ⟨n, rfl⟩ := Int.eq_ofNat_of_zero_le hv0
 obtain ⟨m, rfl⟩ := Int.eq_ofNat_of_zero_le hx0
 rw [qw, Int.emod_eq_of_lt (by omega) (by omega), Int.emod_eq_of_lt (by omega) (by omega)]
 have h1 : ((n : Int) * 256).toNat = n <<< 8 := by rw [Nat.shiftLeft_eq]; omega
 have h2 : (m : Int).toNat = m := by omega
 rw [h1, h2, ← Nat.shiftLeft_add_eq_or_of_lt (by omega : m < 2 ^ 8), Nat.shiftLeft_eq]
 simp [IntKind.wrap, IntKind.bits, IntKind.signed]
 omega
theorem ii (R : Nat) (W : World) (b off cap : Nat) (s : List Int) (p k : Nat) (h : RdS R W (some ⟨b, off, none⟩) cap s p 0 0) (hl : s.length ≤ 100000) (hp : p + k ≤ s.length) (hk1 : 1 ≤ k) (hk8 : k ≤ 8) (hcp : cap ≤ 9223372036854775807) (hby : aH s) :
  Calls Tryz.prog 169 #[.pointer (some ⟨R, 0, none⟩), .int .i64 k] W fun e w' => e = .returned (.int .u64 (bg 0 (yy s p k))) ∧ Below W.heap.size W w' := by
 have HN := Lib.hid (Up.run (tG R W b off cap s p k h hl hp hk1 hcp))
 have HB : Hid (∀ j, j < k → ∀ W', Below W.heap.size W W' → W'.cell? ⟨b, off + p + j, none⟩ = some (.int .u8 ((yy s p k).getD j 0))) := Lib.hid fun j hj W' hW => by
  obtain ⟨b', off', e, hb, hc⟩ := h.byt.resolve_left (by omega)
  cases e
  rw [hW.cell (p := ⟨b, off + p + j, none⟩) hb, Nat.add_assoc, hc (p + j) (by omega), tw hp hj]
 have hwl := j8 hp
 have hwb := ic hby p k
 generalize yy s p k = l at *
 have HV : Hid (∀ j, j < k → 0 ≤ bg 0 (l.take j) ∧ bg 0 (l.take j) < 72057594037927936) := Lib.hid fun j hj => by
  have hb := gL (l.take j) 0 (by omega) (fun x hx => hwb x (List.mem_of_mem_take hx))
  have hlen : (l.take j).length = j := by rw [List.length_take]; omega
  rw [hlen] at hb
  have : (256 : Int) ^ j ≤ 256 ^ 7 := by
   have : (256 : Nat) ^ j ≤ 256 ^ 7 := Nat.pow_le_pow_right (by omega) (by omega)
   exact_mod_cast this
  have e7 : (256 : Int) ^ 7 = 72057594037927936 := by decide
  omega
 have HBY := Lib.hid hwb
 clear h hwb hby
 go_enter Tryz.func169, Tryz.ntmps169
 go_wp2_with (go_at_call 206; refine HN.out.mono ?_; rintro e w' ⟨rfl, u, rfl⟩)
 go_loopw [5, 12] (fun v i wr => ∃ j : Nat, j ≤ k ∧ i = .int .i64 j ∧ v = .int .u64 (bg 0 (l.take j)) ∧ Below W.heap.size W wr) (fun _ i _ => k - (intOf i).toNat)
 case atStart => exact ⟨0, Nat.zero_le _, rfl, rfl, u.bel⟩
 case round =>
  obtain ⟨j, hj, rfl, rfl, hb⟩ := hrel
  by_cases hlt : j < k
  ·have hjI : (j : Int) < k := by omega
   have hcell := HB.out j hlt wr hb
   have hv := HV.out j hlt
   have hx : 0 ≤ l.getD j 0 ∧ l.getD j 0 ≤ 255 := HBY.out _ (by rw [List.getD_eq_getElem?_getD, List.getElem?_eq_getElem (by omega)]; exact List.getElem_mem _)
   have HS := Lib.hid (pX (l := l) (j := j) (by omega))
   generalize bg 0 (l.take j) = v at *
   generalize l.getD j 0 = x at *
   obtain ⟨hv0, hv1⟩ := hv
   obtain ⟨hx0, hx1⟩ := hx
   have HO := Lib.hid (uq hv0 hv1 hx0 hx1)
   go_wp2
   go_roundw
   case rel => exact ⟨j + 1, by omega, by go_num, by rw [HO.out, HS.out], hb⟩
   case measure => simp [intOf]; omega
  ·obtain rfl : j = k := by omega
   rw [List.take_of_length_le (by omega)]
   go_wp2
   go_ret
   exact ⟨rfl, hb⟩
theorem kU (R : Nat) (W : World) (a : Option Addr) (cap : Nat) (s : List Int) (p k : Nat) (h : RdS R W a cap s p 0 0) (hl : s.length ≤ 100000) (hp : p ≤ s.length) (hk : s.length < p + k) :
  Calls Tryz.prog 169 #[.pointer (some ⟨R, 0, none⟩), .int .i64 k] W fun e w' => e = aW 2 s.length ∧ RdS R w' a cap s p 2 s.length ∧ Kp R W w' := by
 have HN := Lib.hid (rT R W a cap s p k h hl hp hk)
 clear h
 unfold aW dt
 go_enter Tryz.func169, Tryz.ntmps169
 go_wp2_with (go_at_call 206; refine HN.out.mono ?_; rintro e w2 ⟨he, hr2, hk2⟩; unfold aW dt at he; subst he)
 exact ⟨rfl, rfl, hr2, hk2⟩
end
section
open Go.RowKit
attribute [local go_sem] IsBlk.cell IsBlk.frozen
theorem j7 (v : Value) (w : World) : (Instr.typeAssert (.iface 37 v) 20 37 true).run Tryz.prog w = .ok (.tuple #[v, .bool true]) w := by
 simp [Instr.typeAssert, run_underlying Tryz.underlying37]
theorem nZ (w : World) : (Instr.typeAssert .nilIface 20 37 true).run Tryz.prog w = .ok (.tuple #[.agg #[.int .i64 0, .int .i64 0], .bool false]) w := by
 simp [Instr.typeAssert, run_underlying Tryz.underlying37]
theorem fo {P : Program} {ops : Array Oper} {Q : Exit → Act → List Frame → World → Prop} {cs : List Frame} (hno : ¬ LetsOut (fun e a w => Q e a cs w)) : ∀ (l : List Oper) (k : Nat) (a : Act) (w : World), (∀ j, l[j]? = ops[k + j]?) →
  wpList P ops (fun e a' w' => Q e a' cs w') l a w → wpOpsS P ops Q (List.range' k l.length) a cs w
 | [], k, a, w, _, h => h
 | o :: rest, k, a, w, hl, h => by
  have h0 : ops[k]? = some o := by simpa using (hl 0).symm
  have hl' : ∀ j, rest[j]? = ops[k + 1 + j]? := fun j => by have := hl (j + 1); simpa [Nat.add_assoc, Nat.add_comm 1 j] using this
  have ih := fun a w => fo (P := P) (ops := ops) (Q := Q) (cs := cs) hno rest (k + 1) a w hl'
  simp only [List.length_cons, List.range'_succ, wpOpsS, h0]
  unfold wpList at h
  by_cases hw : Region.wanted o (yielded ops a.tmps) = true
  ·simp only [hw, if_true] at h ⊢
   rcases h with h | ⟨_, h⟩
   ·unfold Oper.wp at h
    generalize (execOp a.eval o).run P w = r at h ⊢
    cases r with
    | ok x w' =>
     cases x <;> simp only [Oper.upon] at h ⊢
     case value v => exact ih _ _ h
     case skip => exact ih _ _ h
     case defer d => exact ih _ _ h
     case enter f args =>
      refine h.mono fun e w'' he => ?_
      cases e with
      | returned v => exact ih _ _ he
      | panicked c => exact he
      | outgrown => exact absurd he hno
     case row r args => exact h.mono fun v w'' he => ih _ _ he
    | halt x w' => cases x <;> simp only [Oper.upon] at h ⊢; exact h
   ·exact absurd h hno
  ·simp only [hw, if_false, Bool.false_eq_true] at h ⊢
   exact ih _ _ h
theorem cJ {P : Program} {l : List Oper} {Q : Exit → Act → List Frame → World → Prop} {cs : List Frame} {a : Act} {w : World} (k n : Nat) (hn : n = (l.drop k).length) (hno : ¬ LetsOut (fun e a w => Q e a cs w)) (h : wpList P l.toArray (fun e a' w' => Q e a' cs w') (l.drop k) a w) : wpOpsS P l.toArray Q (List.range' k n) a cs w := by
 subst hn
 exact fo hno (l.drop k) k a w (fun j => by simp [List.getElem?_drop]) h
theorem iz (P : Program) (w : World) (ρ : Operand → Value) (o : Oper) (ho : o.op = .call { callee := .builtin .recover, args := #[], argTypes := #[] }) : (execOp ρ o).run P w = .ok .recover w := by
 simp [execOp, ho, resolve, invoke, builtin, go_sem]
theorem gz {P : Program} {l : List Oper} {Q : Exit → Act → List Frame → World → Prop} {cs cs' : List Frame} {a : Act} {w : World} {o : Oper} {v : Value} {rest : List Nat} (hg : o.guard = none)
  (ho : o.op = .call { callee := .builtin .recover, args := #[], argTypes := #[] }) (hc : recoverD cs = some (v, cs')) (h : wpOpsS P (o :: l).toArray Q rest (a.put o.dst v) cs' w) : wpOpsS P (o :: l).toArray Q (0 :: rest) a cs w := by
 have hr := iz P w a.eval o ho
 have hw : Region.wanted o (yielded (o :: l).toArray a.tmps) = true := by unfold Region.wanted; rw [hg]
 simp only [wpOpsS, List.getElem?_toArray, List.getElem?_cons_zero, hw, if_true, hr, hc]
 exact h
theorem fR {P : Program} {l : List Oper} {Q : Exit → Act → List Frame → World → Prop} {cs : List Frame} {a : Act} {w : World} {o : Oper} {rest : List Nat} (hg : o.guard = none)
  (ho : o.op = .call { callee := .builtin .recover, args := #[], argTypes := #[] }) (hc : recoverD cs = none) (h : wpOpsS P (o :: l).toArray Q rest (a.put o.dst .nilIface) cs w) : wpOpsS P (o :: l).toArray Q (0 :: rest) a cs w := by
 have hr := iz P w a.eval o ho
 have hw : Region.wanted o (yielded (o :: l).toArray a.tmps) = true := by unfold Region.wanted; rw [hg]
 simp only [wpOpsS, List.getElem?_toArray, List.getElem?_cons_zero, hw, if_true, hr, hc]
 exact h
theorem nB (N : Nat) (x c f : Int) (w : World) [hN : IsBlk w N #[.int .i64 x] 3] :
  CallsD Tryz.prog 168 #[.pointer (some ⟨N, 0, none⟩)] (.panicking [{ v := .iface 37 (.agg #[.int .i64 c, .int .i64 f]), recovered := false }]) w fun e u' w' =>
   e = .returned (.tuple #[]) ∧ u' = .panicking [{ v := .iface 37 (.agg #[.int .i64 c, .int .i64 f]), recovered := true }] ∧ w' = (w.setCell ⟨N, 0, none⟩ (.int .i64 0)).alloc (.cells #[.int .i64 c, .int .i64 f] 37) := by
 have h1 := j7 (.agg #[.int .i64 c, .int .i64 f])
 have l := hN.le
 refine callsD_of_wpS Tryz.func168 rfl fun c₀ cs hu => ?_
 apply wpS_seq
 apply wpS_region
 rw [List.range_eq_range']
 simp only [Tryz.ntmps168, List.size_toArray, List.length_cons, List.length_nil, Nat.reduceAdd, Nat.reduceSub, Array.replicate_succ, Array.replicate_zero, List.push_toArray, List.append_toArray, List.nil_append, List.cons_append]
 rw [show List.range' 0 8 = 0 :: List.range' 1 7 from rfl]
 have hc : recoverD (c₀ :: cs) = some (.iface 37 (.agg #[.int .i64 c, .int .i64 f]), { c₀ with mode := .panicking [{ v := .iface 37 (.agg #[.int .i64 c, .int .i64 f]), recovered := true }] } :: cs) := by
  simp only [recoverD, hu]
 generalize hrest : List.range' 1 7 = rest
 refine gz rfl rfl hc ?_
 simp only [Act.put, List.setIfInBounds_toArray, List.set_cons_succ, List.set_cons_zero]
 rw [← hrest]
 clear hrest
 refine cJ 1 7 (by rfl) ?_ ?_
 ·rintro ⟨a, w1, h⟩
  obtain ⟨u', h1, _⟩ := h
  cases h1
 ·simp only [List.drop_succ_cons, List.drop_zero]
  clear hc hu
  go_wp2
  refine wpS_of_wp ?_
  go_wp2
  exact ⟨rfl, _, rfl, .tuple #[], by simp [results, Tryz.results168], rfl, rfl, rfl⟩
theorem pO (N : Nat) (w : World) :
  CallsD Tryz.prog 168 #[.pointer (some ⟨N, 0, none⟩)] .returning w fun e u' w' =>
   e = .returned (.tuple #[]) ∧ u' = .returning ∧ w' = w.alloc (.cells #[.int .i64 0, .int .i64 0] 37) := by
 have h1 := nZ
 refine callsD_of_wpS Tryz.func168 rfl fun c₀ cs hu => ?_
 apply wpS_seq
 apply wpS_region
 rw [List.range_eq_range']
 simp only [Tryz.ntmps168, List.size_toArray, List.length_cons, List.length_nil, Nat.reduceAdd, Nat.reduceSub, Array.replicate_succ, Array.replicate_zero, List.push_toArray, List.append_toArray, List.nil_append, List.cons_append]
 rw [show List.range' 0 8 = 0 :: List.range' 1 7 from rfl]
 have hc : recoverD (c₀ :: cs) = none := by
  simp only [recoverD, hu]
 have HCC : Hid (c₀ = { c₀ with mode := .returning }) := Lib.hid (by cases c₀; simp_all)
 generalize hrest : List.range' 1 7 = rest
 refine fR rfl rfl hc ?_
 simp only [Act.put, List.setIfInBounds_toArray, List.set_cons_succ, List.set_cons_zero]
 rw [← hrest]
 clear hrest
 refine cJ 1 7 (by rfl) ?_ ?_
 ·rintro ⟨a, w1, h⟩
  obtain ⟨u', h1, _⟩ := h
  cases h1
 ·simp only [List.drop_succ_cons, List.drop_zero]
  clear hc hu
  go_wp2
  refine wpS_of_wp ?_
  go_wp2
  exact ⟨rfl, .returning, congrArg (· :: cs) HCC.out, .tuple #[], by simp [results, Tryz.results168], rfl, rfl, rfl⟩
end
section
open Go.RowKit
attribute [local go_sem] IsBlk.cell IsBlk.frozen
theorem sA {s : List Int} {p k : Nat} (hby : aH s) (hp : p + k ≤ s.length) (hk : k ≤ 7) : 0 ≤ bg 0 (yy s p k) ∧ bg 0 (yy s p k) < 72057594037927936 := by
 have hb := gL (yy s p k) 0 (by omega) (ic hby p k)
 rw [j8 hp] at hb
 have : (256 : Int) ^ k ≤ 256 ^ 7 := by
  have : (256 : Nat) ^ k ≤ 256 ^ 7 := Nat.pow_le_pow_right (by omega) hk
  exact_mod_cast this
 have e7 : (256 : Int) ^ 7 = 72057594037927936 := by decide
 omega
theorem pp (R : Nat) (W : World) (b off cap : Nat) (s : List Int) (p k : Nat) (lo hi : Int) (h : RdS R W (some ⟨b, off, none⟩) cap s p 0 0) (hl : s.length ≤ 100000) (hp : p + k ≤ s.length) (hk1 : 1 ≤ k) (hk7 : k ≤ 7) (hcp : cap ≤ 9223372036854775807) (hby : aH s)
  (hlo : lo ≤ bg 0 (yy s p k)) (hhi : bg 0 (yy s p k) ≤ hi) :
  Calls Tryz.prog 119 #[.pointer (some ⟨R, 0, none⟩), .int .i64 k, .int .i64 lo, .int .i64 hi] W fun e w' => e = .returned (.int .i64 (bg 0 (yy s p k))) ∧ RdS R w' (some ⟨b, off, none⟩) cap s (p + k : Nat) 0 0 ∧ Kp R W w' := by
 have hmf : ∀ (fn : Fn) (first cap : Array Value) (w : World), (Instr.makeFunc fn first cap).run Tryz.prog w = .ok (.func fn first cap) w := fun _ _ _ _ => rfl
 have hv := sA hby hp hk7
 have HW : Hid (∀ W', RdS R W' (some ⟨b, off, none⟩) cap s p 0 0 → Calls Tryz.prog 169 #[.pointer (some ⟨R, 0, none⟩), .int .i64 k] W' fun e w' => e = .returned (.int .u64 (bg 0 (yy s p k))) ∧ ∃ u : Up W', w' = u.w) := Lib.hid fun W' h' => Up.run (ii R W' b off cap s p k h' hl hp hk1 (by omega) hcp hby)
 have H := Lib.hid h
 haveI i : IsBlk W R #[.slice (some ⟨b, off, none⟩) s.length cap, .int .i64 p, .int .i64 0, .int .i64 0] 179 := ⟨h.blk⟩
 have l := i.le
 clear h hby
 generalize bg 0 (yy s p k) = v at *
 obtain ⟨hv0, hv1⟩ := hv
 have hkI : (k : Int) ≤ 7 := by omega
 have hpI : (p : Int) ≤ 100000 := by omega
 have hlo' : ¬ v < lo := by omega
 have hhi' : ¬ hi < v := by omega
 go_enter_defers Tryz.func119, Tryz.ntmps119
 go_wp2_with (go_at_call 169; refine (HW.out _ (H.out.below (by exact yd))).mono ?_; rintro e w' ⟨rfl, u, rfl⟩)
 obtain ⟨W3, hW3⟩ : ∃ W3, (((u.w.setCell ⟨W.heap.size, 0, none⟩ (.int .i64 v)).setCell ⟨R, 1, none⟩ (.int .i64 ((p : Int) + (k : Int)))).setCell ⟨W.heap.size, 0, none⟩ (.int .i64 v)) = W3 := ⟨_, rfl⟩
 have hRW := H.out.lt
 have hc3 : W3.cell? ⟨W.heap.size, 0, none⟩ = some (.int .i64 v) := by rw [← hW3]; exact fQ _ _ _
 have hub : Below W.heap.size W u.w := by exact yd
 have hk3 : Kp R W W3 := by
  rw [← hW3]
  refine ⟨by simp only [World.setCell, Array.size_modify]; exact hub.size, fun j h1 h2 => ?_, fun B w0 hB hb => ?_⟩
  ·rw [Below.heap_setCell _ _ _ _ (by show j ≠ W.heap.size; omega), Below.heap_setCell _ _ _ _ (by show j ≠ R; exact h1), Below.heap_setCell _ _ _ _ (by show j ≠ W.heap.size; omega)]
   exact hub.block j h2
  ·exact (((hb.trans (hub.mono (by omega))).setCell (p := ⟨W.heap.size, 0, none⟩) (by show B ≤ W.heap.size; omega) _).setCell (p := ⟨R, 1, none⟩) hB _).setCell (p := ⟨W.heap.size, 0, none⟩) (by show B ≤ W.heap.size; omega) _
 have hr3 : RdS R W3 (some ⟨b, off, none⟩) cap s (p + k : Nat) 0 0 := by
  refine H.out.to hk3 ?_
  rw [← hW3, Below.heap_setCell _ _ _ _ (by show R ≠ W.heap.size; omega)]
  have e1 : (u.w.setCell ⟨W.heap.size, 0, none⟩ (.int .i64 v)).heap[R]? = some (.cells (vN (some ⟨b, off, none⟩) s.length cap p 0 0) 179) := by
   rw [Below.heap_setCell _ _ _ _ (by show R ≠ W.heap.size; omega)]; exact (hub.block R hRW).trans H.out.blk
  exact (ao e1 1 _).trans (by simp only [vN, List.setIfInBounds_toArray, List.set_cons_succ, List.set_cons_zero]; rw [Int.natCast_add])
 rw [hW3]
 have hl3 : W.heap.size < W3.heap.size := World.block_lt_of_cell? _ _ hc3
 refine leaves_cons (f := 168) (args := #[.pointer (some ⟨W.heap.size, 0, none⟩)]) (by simp) (by simp [go_sem]) ?_
 refine (pO W.heap.size _).mono ?_
 rintro e u' w'' ⟨rfl, rfl, rfl⟩
 have hc4 : (W3.alloc (.cells #[.int .i64 0, .int .i64 0] 37)).cell? ⟨W.heap.size, 0, none⟩ = some (.int .i64 v) := (World.cell?_alloc_past _ _ _ hl3).trans hc3
 clear hW3 hc3
 refine ⟨.int .i64 v, ?_, rfl, hr3.below ((Below.refl _ _).alloc (Nat.le_refl _) _), hk3.trans (Kp.of ((Below.refl _ _).alloc (Nat.le_refl _) _) hr3.lt)⟩
 simp [results, Tryz.results119, go_sem, hc4]
theorem Kp.out {R : Nat} {W W' : World} (h : Below W.heap.size W W') (hR : R < W.heap.size) : Kp R W W' := Kp.of h hR
theorem nD (R : Nat) (W : World) (a : Option Addr) (cap : Nat) (s : List Int) (p k : Nat) (lo hi : Int) (h : RdS R W a cap s p 0 0) (hl : s.length ≤ 100000) (hp : p ≤ s.length) (hk : s.length < p + k) (hk7 : k ≤ 7) :
  Calls Tryz.prog 119 #[.pointer (some ⟨R, 0, none⟩), .int .i64 k, .int .i64 lo, .int .i64 hi] W fun e w' => e = .returned (.int .i64 0) ∧ RdS R w' a cap s p 2 s.length ∧ Kp R W w' := by
 have hmf : ∀ (fn : Fn) (first cap : Array Value) (w : World), (Instr.makeFunc fn first cap).run Tryz.prog w = .ok (.func fn first cap) w := fun _ _ _ _ => rfl
 have HW : Hid (∀ W', RdS R W' a cap s p 0 0 → Calls Tryz.prog 169 #[.pointer (some ⟨R, 0, none⟩), .int .i64 k] W' fun e w' => e = aW 2 s.length ∧ RdS R w' a cap s p 2 s.length ∧ Kp R W' w') := Lib.hid fun W' h' => kU R W' a cap s p k h' hl hp hk
 have H := Lib.hid h
 have hRW := h.lt
 clear h
 have hkI : (k : Int) ≤ 7 := by omega
 go_enter_defers Tryz.func119, Tryz.ntmps119
 go_wp2_with (go_at_call 169; refine (HW.out _ (H.out.below (by exact yd))).mono ?_; rintro e w1 ⟨he, hr2, hk2⟩; unfold aW dt at he; subst he)
 haveI iN : IsBlk w1 W.heap.size #[.int .i64 0] 3 := hk2.blk (b := W.heap.size) inferInstance (by omega)
 have hnl := iN.le.out
 refine leaves_cons (f := 168) (args := #[.pointer (some ⟨W.heap.size, 0, none⟩)]) (by simp) (by simp [go_sem]) ?_
 refine (nB W.heap.size 0 2 s.length w1).mono ?_
 rintro e u' w'' ⟨rfl, rfl, rfl⟩
 have hc3 : (w1.setCell ⟨W.heap.size, 0, none⟩ (.int .i64 0)).cell? ⟨W.heap.size, 0, none⟩ = some (.int .i64 0) := World.cell?_setCell_same' w1 ⟨W.heap.size, 0, none⟩ _ (by rw [IsBlk.cell]; rfl)
 have hc4 : ((w1.setCell ⟨W.heap.size, 0, none⟩ (.int .i64 0)).alloc (.cells #[.int .i64 2, .int .i64 s.length] 37)).cell? ⟨W.heap.size, 0, none⟩ = some (.int .i64 0) := (World.cell?_alloc_past _ _ _ (World.block_lt_of_cell? _ _ hc3)).trans hc3
 have hk3 : Kp R W (w1.setCell ⟨W.heap.size, 0, none⟩ (.int .i64 0)) := by
  have hk1 : Kp R W w1 := hk2.alloc _ hRW
  refine ⟨by simp only [World.setCell, Array.size_modify]; exact hk1.size, fun j h1 h2 => ?_, fun B w0 hB hb => ?_⟩
  ·rw [Below.heap_setCell _ _ _ _ (by show j ≠ W.heap.size; omega)]; exact hk1.same j h1 h2
  ·exact (hk1.bel B w0 hB hb).setCell (p := ⟨W.heap.size, 0, none⟩) (by show B ≤ W.heap.size; omega) _
 have hr3 : RdS R (w1.setCell ⟨W.heap.size, 0, none⟩ (.int .i64 0)) a cap s p 2 s.length := H.out.to hk3 (by rw [Below.heap_setCell _ _ _ _ (by show R ≠ W.heap.size; omega)]; exact hr2.blk)
 refine ⟨.int .i64 0, ?_, rfl, hr3.below ((Below.refl _ _).alloc (Nat.le_refl _) _), hk3.trans (Kp.of ((Below.refl _ _).alloc (Nat.le_refl _) _) hr3.lt)⟩
 simp [results, Tryz.results119, go_sem, hc4]
end
section
open Go.RowKit
attribute [local go_sem] IsBlk.cell IsBlk.frozen
theorem mO (R : Nat) (W : World) (b off cap : Nat) (s : List Int) (p k : Nat) (lo hi : Int) (h : RdS R W (some ⟨b, off, none⟩) cap s p 0 0) (hl : s.length ≤ 100000) (hp : p + k ≤ s.length) (hk1 : 1 ≤ k) (hk7 : k ≤ 7) (hcp : cap ≤ 9223372036854775807) (hby : aH s)
  (hout : bg 0 (yy s p k) < lo ∨ hi < bg 0 (yy s p k)) :
  Calls Tryz.prog 119 #[.pointer (some ⟨R, 0, none⟩), .int .i64 k, .int .i64 lo, .int .i64 hi] W fun e w' => e = .returned (.int .i64 0) ∧ RdS R w' (some ⟨b, off, none⟩) cap s p 4 p ∧ Kp R W w' := by
 have hmf : ∀ (fn : Fn) (first cap : Array Value) (w : World), (Instr.makeFunc fn first cap).run Tryz.prog w = .ok (.func fn first cap) w := fun _ _ _ _ => rfl
 have hv := sA hby hp hk7
 have HW : Hid (∀ W', RdS R W' (some ⟨b, off, none⟩) cap s p 0 0 → Calls Tryz.prog 169 #[.pointer (some ⟨R, 0, none⟩), .int .i64 k] W' fun e w' => e = .returned (.int .u64 (bg 0 (yy s p k))) ∧ ∃ u : Up W', w' = u.w) := Lib.hid fun W' h' => Up.run (ii R W' b off cap s p k h' hl hp hk1 (by omega) hcp hby)
 have H := Lib.hid h
 haveI i : IsBlk W R #[.slice (some ⟨b, off, none⟩) s.length cap, .int .i64 p, .int .i64 0, .int .i64 0] 179 := ⟨h.blk⟩
 have l := i.le
 have hRW := h.lt
 clear h hby
 generalize bg 0 (yy s p k) = v at *
 obtain ⟨hv0, hv1⟩ := hv
 have hkI : (k : Int) ≤ 7 := by omega
 have hpI : (p : Int) ≤ 100000 := by omega
 have HF : Hid (∀ W', RdS R W' (some ⟨b, off, none⟩) cap s p 0 0 → Calls Tryz.prog 170 #[.pointer (some ⟨R, 0, none⟩), .int .i64 4, .int .i64 p] W' fun e w' => e = aW 4 p ∧ RdS R w' (some ⟨b, off, none⟩) cap s p 4 p ∧ Kp R W' w') := Lib.hid fun W' h' => kh R W' _ cap s p 4 p h'
 have HR : Hid (∀ u : Up (W.alloc (.cells #[.int .i64 0] 3)), RdS R (u.w.setCell ⟨W.heap.size, 0, none⟩ (.int .i64 v)) (some ⟨b, off, none⟩) cap s p 0 0 ∧ Kp R W (u.w.setCell ⟨W.heap.size, 0, none⟩ (.int .i64 v))) := Lib.hid fun u => by
  have hub : Below W.heap.size W u.w := by exact yd
  have hk : Kp R W (u.w.setCell ⟨W.heap.size, 0, none⟩ (.int .i64 v)) := by
   refine ⟨by simp only [World.setCell, Array.size_modify]; exact hub.size, fun j h1 h2 => ?_, fun B w0 hB hb => ?_⟩
   ·rw [Below.heap_setCell _ _ _ _ (by show j ≠ W.heap.size; omega)]; exact hub.block j h2
   ·exact (hb.trans (hub.mono (by omega))).setCell (p := ⟨W.heap.size, 0, none⟩) (by show B ≤ W.heap.size; omega) _
  exact ⟨H.out.to hk (by rw [Below.heap_setCell _ _ _ _ (by show R ≠ W.heap.size; omega)]; exact (hub.block R hRW).trans H.out.blk), hk⟩
 have HEND : Hid (∀ (u : Up (W.alloc (.cells #[.int .i64 0] 3))) (w1 : World), RdS R w1 (some ⟨b, off, none⟩) cap s p 4 p → Kp R (u.w.setCell ⟨W.heap.size, 0, none⟩ (.int .i64 v)) w1 → IsBlk w1 W.heap.size #[.int .i64 v] 3) := Lib.hid fun u w1 hr hk => by
  have i0 : IsBlk u.w W.heap.size #[.int .i64 0] 3 := inferInstance
  have e : (u.w.setCell ⟨W.heap.size, 0, none⟩ (.int .i64 v)).heap[W.heap.size]? = some (.cells #[.int .i64 v] 3) := (ao i0.out 0 _).trans (by simp only [List.setIfInBounds_toArray, List.set_cons_zero])
  exact hk.blk ⟨e⟩ (by omega)
 have h1 : (v < lo) ∨ (¬ v < lo ∧ hi < v) := by omega
 clear hout
 rcases h1 with h1 | ⟨h1, h2⟩
 all_goals
  go_enter_defers Tryz.func119, Tryz.ntmps119
  go_wp2_with (first | (go_at_call 169; refine (HW.out _ (H.out.below (by exact yd))).mono ?_; rintro e w' ⟨rfl, u, rfl⟩) | (go_at_call 170; refine (HF.out _ (HR.out u).1).mono ?_; rintro e w1 ⟨he, hr2, hk2⟩; unfold aW dt at he; subst he))
  haveI iN : IsBlk w1 W.heap.size #[.int .i64 v] 3 := HEND.out u w1 hr2 hk2
  have hnl := iN.le.out
  refine leaves_cons (f := 168) (args := #[.pointer (some ⟨W.heap.size, 0, none⟩)]) (by simp) (by simp [go_sem]) ?_
  refine (nB W.heap.size v 4 p w1).mono ?_
  rintro e u' w'' ⟨rfl, rfl, rfl⟩
  have hc3 : (w1.setCell ⟨W.heap.size, 0, none⟩ (.int .i64 0)).cell? ⟨W.heap.size, 0, none⟩ = some (.int .i64 0) := World.cell?_setCell_same' w1 ⟨W.heap.size, 0, none⟩ _ (by rw [IsBlk.cell]; rfl)
  have hc4 : ((w1.setCell ⟨W.heap.size, 0, none⟩ (.int .i64 0)).alloc (.cells #[.int .i64 4, .int .i64 p] 37)).cell? ⟨W.heap.size, 0, none⟩ = some (.int .i64 0) := (World.cell?_alloc_past _ _ _ (World.block_lt_of_cell? _ _ hc3)).trans hc3
  have hk3 : Kp R W (w1.setCell ⟨W.heap.size, 0, none⟩ (.int .i64 0)) := by
   have hk1 : Kp R W w1 := (HR.out u).2.trans hk2
   refine ⟨by simp only [World.setCell, Array.size_modify]; exact hk1.size, fun j h1 h2 => ?_, fun B w0 hB hb => ?_⟩
   ·rw [Below.heap_setCell _ _ _ _ (by show j ≠ W.heap.size; omega)]; exact hk1.same j h1 h2
   ·exact (hk1.bel B w0 hB hb).setCell (p := ⟨W.heap.size, 0, none⟩) (by show B ≤ W.heap.size; omega) _
  have hr3 : RdS R (w1.setCell ⟨W.heap.size, 0, none⟩ (.int .i64 0)) (some ⟨b, off, none⟩) cap s p 4 p := H.out.to hk3 (by rw [Below.heap_setCell _ _ _ _ (by show R ≠ W.heap.size; omega)]; exact hr2.blk)
  refine ⟨.int .i64 0, ?_, rfl, hr3.below ((Below.refl _ _).alloc (Nat.le_refl _) _), hk3.trans (Kp.of ((Below.refl _ _).alloc (Nat.le_refl _) _) hr3.lt)⟩
  simp [results, Tryz.results119, go_sem, hc4]
end
section
open Go.RowKit
attribute [local go_sem] IsBlk.cell IsBlk.frozen
theorem il (R : Nat) (W : World) (a : Option Addr) (cap : Nat) (s : List Int) (p f : Int) (h : RdS R W a cap s p 0 f) :
  Calls Tryz.prog 120 #[.agg #[.pointer (some ⟨R, 0, none⟩)]] W fun e w' => e = .returned (.tuple #[]) ∧ Below W.heap.size W w' := by
 have HF : Hid (∀ W', Below W.heap.size W W' → Calls Tryz.prog 171 #[.pointer (some ⟨R, 0, none⟩)] W' fun e w' => e = .returned (.agg #[.int .i64 0, .int .i64 f]) ∧ ∃ u : Up W', w' = u.w) := Lib.hid fun W' hb => Up.run (jS R W' a cap s p 0 f (h.below hb))
 clear h
 go_enter Tryz.func120, Tryz.ntmps120
 go_wp2_with (go_at_call 171; refine (HF.out _ (by exact yd)).mono ?_; rintro e w' ⟨rfl, u, rfl⟩)
 go_returns
 exact ⟨rfl, by exact yd⟩
theorem iw (R : Nat) (W : World) (a : Option Addr) (cap : Nat) (s : List Int) (p c f : Int) (h : RdS R W a cap s p c f) (hc : c ≠ 0) :
  Calls Tryz.prog 120 #[.agg #[.pointer (some ⟨R, 0, none⟩)]] W fun e w' => e = aW c f ∧ Below W.heap.size W w' := by
 have HF : Hid (∀ W', Below W.heap.size W W' → Calls Tryz.prog 171 #[.pointer (some ⟨R, 0, none⟩)] W' fun e w' => e = .returned (.agg #[.int .i64 c, .int .i64 f]) ∧ ∃ u : Up W', w' = u.w) := Lib.hid fun W' hb => Up.run (jS R W' a cap s p c f (h.below hb))
 have hcb : (c == 0) = false := beq_eq_false_iff_ne.2 hc
 clear h hc
 unfold aW dt
 go_enter Tryz.func120, Tryz.ntmps120
 go_wp2_with (go_at_call 171; refine (HF.out _ (by exact yd)).mono ?_; rintro e w' ⟨rfl, u, rfl⟩)
 exact ⟨rfl, rfl, by exact yd⟩
theorem ux (R : Nat) (W : World) (b off cap : Nat) (s : List Int) (p k : Nat) (lo hi : Int) (h : RdS R W (some ⟨b, off, none⟩) cap s p 0 0) (hl : s.length ≤ 100000) (hp : p + k ≤ s.length) (hk1 : 1 ≤ k) (hk7 : k ≤ 7) (hcp : cap ≤ 9223372036854775807) (hby : aH s)
  (hlo : lo ≤ bg 0 (yy s p k)) (hhi : bg 0 (yy s p k) ≤ hi) :
  Calls Tryz.prog 42 #[.agg #[.pointer (some ⟨R, 0, none⟩)], .int .i64 k, .int .i64 lo, .int .i64 hi] W fun e w' => e = .returned (.int .i64 (bg 0 (yy s p k))) ∧ RdS R w' (some ⟨b, off, none⟩) cap s (p + k : Nat) 0 0 ∧ Kp R W w' := by
 have HN : Hid (∀ W', Below W.heap.size W W' → Calls Tryz.prog 119 #[.pointer (some ⟨R, 0, none⟩), .int .i64 k, .int .i64 lo, .int .i64 hi] W' fun e w' => e = .returned (.int .i64 (bg 0 (yy s p k))) ∧ RdS R w' (some ⟨b, off, none⟩) cap s (p + k : Nat) 0 0 ∧ Kp R W' w') := Lib.hid fun W' hb => pp R W' b off cap s p k lo hi (h.below hb) hl hp hk1 hk7 hcp hby hlo hhi
 have hRW := h.lt
 clear h hby hlo hhi
 generalize bg 0 (yy s p k) = v at *
 go_enter Tryz.func42, Tryz.ntmps42
 go_wp2_with fail
 go_at_call 119; refine (HN.out _ (by exact yd)).mono ?_; rintro e w1 ⟨rfl, hr1, hk1'⟩
 haveI iX : IsBlk w1 W.heap.size #[.pointer (some ⟨R, 0, none⟩)] 120 := hk1'.blk (b := W.heap.size) inferInstance (by omega)
 go_wp2_with fail
 go_at_call 120; refine (Up.run (il R w1 _ cap s _ 0 hr1)).mono ?_; rintro e w' ⟨rfl, u, rfl⟩
 go_wp2_with fail
 go_ret
 exact ⟨rfl, hr1.below u.bel, (hk1'.alloc _ hRW).trans (Kp.of u.bel hr1.lt)⟩
theorem pA (R : Nat) (W : World) (a : Option Addr) (cap : Nat) (s : List Int) (p k : Nat) (lo hi c f : Int) (h : R < W.heap.size) (hc : c ≠ 0)
  (HN : Hid (∀ W', Below W.heap.size W W' → Calls Tryz.prog 119 #[.pointer (some ⟨R, 0, none⟩), .int .i64 k, .int .i64 lo, .int .i64 hi] W' fun e w' => e = .returned (.int .i64 0) ∧ RdS R w' a cap s p c f ∧ Kp R W' w')) :
  Calls Tryz.prog 42 #[.agg #[.pointer (some ⟨R, 0, none⟩)], .int .i64 k, .int .i64 lo, .int .i64 hi] W fun e w' => e = aW c f ∧ Kp R W w' := by
 unfold aW dt
 go_enter Tryz.func42, Tryz.ntmps42
 go_wp2_with fail
 go_at_call 119; refine (HN.out _ (by exact yd)).mono ?_; rintro e w1 ⟨rfl, hr1, hk1'⟩
 haveI iX : IsBlk w1 W.heap.size #[.pointer (some ⟨R, 0, none⟩)] 120 := hk1'.blk (b := W.heap.size) inferInstance (by omega)
 go_wp2_with fail
 go_at_call 120; refine (iw R w1 _ cap s _ c f hr1 hc).mono ?_; rintro e w' ⟨he, hb⟩; unfold aW dt at he; subst he
 exact ⟨rfl, rfl, (hk1'.alloc _ h).trans (Kp.of hb hr1.lt)⟩
end
section
open Go.RowKit
attribute [local go_sem] IsBlk.cell IsBlk.frozen
def aG {α : Type} (R : Nat) (W w' : World) (a : Option Addr) (cap : Nat) (s : List Int) (val : World → α → Value → Prop) : Option (α × List Int) → Ending → Prop
 | some (x, r), e => ∃ v p', e = .returned v ∧ val w' x v ∧ r = s.drop p' ∧ p' ≤ s.length ∧ RdS R w' a cap s (p' : Nat) 0 0 ∧ Kp R W w'
 | none, e => ∃ c f, e = aW c f ∧ c ≠ 0 ∧ 0 ≤ f ∧ f ≤ s.length ∧ Kp R W w'
def gH : World → Int → Value → Prop := fun _ n v => v = .int .i64 n
def xN : World → Bool → Value → Prop := fun _ b v => v = .bool b
structure RdP (R : Nat) (W : World) (a : Option Addr) (cap : Nat) (s : List Int) (p : Nat) : Prop where
 rd : RdS R W a cap s p 0 0
 le : p ≤ s.length
 ln : s.length ≤ 100000
 cp : cap ≤ 9223372036854775807
 by' : aH s
theorem lI {s : List Int} {p k : Nat} {lo hi : Int} (hp : p + k ≤ s.length) : bY k lo hi (s.drop p) = if lo ≤ bg 0 (yy s p k) ∧ bg 0 (yy s p k) ≤ hi then some (bg 0 (yy s p k), s.drop (p + k)) else none := by
 unfold bY yy
 rw [if_neg (by rw [List.length_drop]; omega), List.drop_drop]
theorem bx (R : Nat) (W : World) (a : Option Addr) (cap : Nat) (s : List Int) (p k : Nat) (lo hi : Int) (h : RdP R W a cap s p) (hk1 : 1 ≤ k) (hk7 : k ≤ 7) :
  Calls Tryz.prog 42 #[.agg #[.pointer (some ⟨R, 0, none⟩)], .int .i64 k, .int .i64 lo, .int .i64 hi] W fun e w' => aG R W w' a cap s gH (bY k lo hi (s.drop p)) e := by
 have hlt := h.rd.lt
 by_cases hp : p + k ≤ s.length
 ·rw [lI hp]
  obtain ⟨b, off, rfl, _⟩ := h.rd.byt.resolve_left (by omega)
  by_cases hb : lo ≤ bg 0 (yy s p k) ∧ bg 0 (yy s p k) ≤ hi
  ·rw [if_pos hb]
   refine (ux R W b off cap s p k lo hi h.rd h.ln hp hk1 hk7 h.cp h.by' hb.1 hb.2).mono ?_
   rintro e w' ⟨he, hr, hk⟩
   exact ⟨_, p + k, he, rfl, rfl, hp, hr, hk⟩
  ·rw [if_neg hb]
   refine (pA R W _ cap s p k lo hi 4 p hlt (by decide) (Lib.hid fun W' hW => mO R W' b off cap s p k lo hi (h.rd.below hW) h.ln hp hk1 hk7 h.cp h.by' (by omega))).mono ?_
   rintro e w' ⟨he, hk⟩
   exact ⟨4, p, he, by decide, by omega, by omega, hk⟩
 ·have : bY k lo hi (s.drop p) = none := by unfold bY; rw [if_pos (by rw [List.length_drop]; omega)]
  rw [this]
  have hle := h.le
  refine (pA R W a cap s p k lo hi 2 s.length hlt (by decide) (Lib.hid fun W' hW => nD R W' a cap s p k lo hi (h.rd.below hW) h.ln h.le (by omega) hk7)).mono ?_
  rintro e w' ⟨he, hk⟩
  exact ⟨2, s.length, he, by decide, by omega, by omega, hk⟩
theorem RdP.below {R : Nat} {W W' : World} {a : Option Addr} {cap : Nat} {s : List Int} {p : Nat} (h : RdP R W a cap s p) (hb : Below W.heap.size W W') : RdP R W' a cap s p := ⟨h.rd.below hb, h.le, h.ln, h.cp, h.by'⟩
theorem aG.alloc {α : Type} {R : Nat} {W w' : World} {a : Option Addr} {cap : Nat} {s : List Int} {val : World → α → Value → Prop} {o : Option (α × List Int)} {e : Ending} (ob : Obj) (hR : R < W.heap.size) (h : aG R (W.alloc ob) w' a cap s val o e) : aG R W w' a cap s val o e := by
 cases o with
 | none => obtain ⟨c, f, h1, h2, h3, h4, h5⟩ := h; exact ⟨c, f, h1, h2, h3, h4, h5.alloc _ hR⟩
 | some x => obtain ⟨x, r⟩ := x; obtain ⟨v, p', h1, h2, h3, h4, h5, h6⟩ := h; exact ⟨v, p', h1, h2, h3, h4, h5, h6.alloc _ hR⟩
theorem dJ (R : Nat) (W : World) (a : Option Addr) (cap : Nat) (s : List Int) (p : Nat) (h : RdP R W a cap s p) :
  Calls Tryz.prog 126 #[.agg #[.pointer (some ⟨R, 0, none⟩)]] W fun e w' => aG R W w' a cap s gH (dU (s.drop p)) e := by
 have hlt := h.rd.lt
 have HN : Hid (∀ W', Below W.heap.size W W' → Calls Tryz.prog 42 #[.agg #[.pointer (some ⟨R, 0, none⟩)], .int .i64 2, .int .i64 0, .int .i64 9999] W' fun e w' => aG R W' w' a cap s gH (dU (s.drop p)) e) := Lib.hid fun W' hW => bx R W' a cap s p 2 0 9999 (h.below hW) (by omega) (by omega)
 clear h
 cases hO : dU (s.drop p) with
 | none =>
  rw [hO] at HN
  go_enter Tryz.func126, Tryz.ntmps126
  go_wp2_with fail
  go_at_call 42; refine (HN.out _ (by exact yd)).mono ?_; rintro e w1 h1; obtain ⟨c, f, he, h2, h3, h4, h5⟩ := h1; unfold aW dt at he; subst he
  exact ⟨rfl, c, f, rfl, h2, h3, h4, h5.alloc _ hlt⟩
 | some x =>
  obtain ⟨n, r⟩ := x
  rw [hO] at HN
  go_enter Tryz.func126, Tryz.ntmps126
  go_wp2_with fail
  go_at_call 42; refine (HN.out _ (by exact yd)).mono ?_; rintro e w1 h1; obtain ⟨v, p', rfl, rfl, h3, h4, h5, h6⟩ := h1
  go_wp2_with fail
  go_ret
  exact ⟨_, p', rfl, rfl, h3, h4, h5, h6.alloc _ hlt⟩
end
section
open Go.RowKit
attribute [local go_sem] IsBlk.cell IsBlk.frozen
theorem aaC (R : Nat) (W : World) (a : Option Addr) (cap : Nat) (s : List Int) (p : Nat) (h : RdP R W a cap s p) :
  Calls Tryz.prog 123 #[.agg #[.pointer (some ⟨R, 0, none⟩)]] W fun e w' => aG R W w' a cap s gH (kz (s.drop p)) e := by
 have hlt := h.rd.lt
 have HN : Hid (∀ W', Below W.heap.size W W' → Calls Tryz.prog 42 #[.agg #[.pointer (some ⟨R, 0, none⟩)], .int .i64 1, .int .i64 0, .int .i64 255] W' fun e w' => aG R W' w' a cap s gH (kz (s.drop p)) e) := Lib.hid fun W' hW => bx R W' a cap s p 1 0 255 (h.below hW) (by omega) (by omega)
 clear h
 cases hO : kz (s.drop p) with
 | none =>
  rw [hO] at HN
  go_enter Tryz.func123, Tryz.ntmps123
  go_wp2_with fail
  go_at_call 42; refine (HN.out _ (by exact yd)).mono ?_; rintro e w1 h1; obtain ⟨c, f, he, h2, h3, h4, h5⟩ := h1; unfold aW dt at he; subst he
  exact ⟨rfl, c, f, rfl, h2, h3, h4, h5.alloc _ hlt⟩
 | some x =>
  obtain ⟨n, r⟩ := x
  rw [hO] at HN
  go_enter Tryz.func123, Tryz.ntmps123
  go_wp2_with fail
  go_at_call 42; refine (HN.out _ (by exact yd)).mono ?_; rintro e w1 h1; obtain ⟨v, p', rfl, rfl, h3, h4, h5, h6⟩ := h1
  go_wp2_with fail
  go_ret
  exact ⟨_, p', rfl, rfl, h3, h4, h5, h6.alloc _ hlt⟩
def xl (R : Nat) (W w' : World) (a : Option Addr) (cap : Nat) (s : List Int) (p : Nat) : Option (Int × List Int) → Ending → Prop
 | some (x, r), e => ∃ p', e = .returned (.int .i64 x) ∧ r = s.drop p' ∧ p' ≤ s.length ∧ RdS R w' a cap s (p' : Nat) 0 0 ∧ Kp R W w'
 | none, e => ∃ (c f : Int), e = .returned (.int .i64 0) ∧ c ≠ 0 ∧ 0 ≤ f ∧ f ≤ s.length ∧ RdS R w' a cap s p c f ∧ Kp R W w'
theorem tJ (R : Nat) (W : World) (a : Option Addr) (cap : Nat) (s : List Int) (p k : Nat) (lo hi : Int) (h : RdP R W a cap s p) (hk1 : 1 ≤ k) (hk7 : k ≤ 7) :
  Calls Tryz.prog 119 #[.pointer (some ⟨R, 0, none⟩), .int .i64 k, .int .i64 lo, .int .i64 hi] W fun e w' => xl R W w' a cap s p (bY k lo hi (s.drop p)) e := by
 by_cases hp : p + k ≤ s.length
 ·rw [lI hp]
  obtain ⟨b, off, rfl, _⟩ := h.rd.byt.resolve_left (by omega)
  by_cases hb : lo ≤ bg 0 (yy s p k) ∧ bg 0 (yy s p k) ≤ hi
  ·rw [if_pos hb]
   refine (pp R W b off cap s p k lo hi h.rd h.ln hp hk1 hk7 h.cp h.by' hb.1 hb.2).mono ?_
   rintro e w' ⟨he, hr, hk⟩
   exact ⟨p + k, he, rfl, hp, hr, hk⟩
  ·rw [if_neg hb]
   refine (mO R W b off cap s p k lo hi h.rd h.ln hp hk1 hk7 h.cp h.by' (by omega)).mono ?_
   rintro e w' ⟨he, hr, hk⟩
   exact ⟨4, p, he, by decide, by omega, by omega, hr, hk⟩
 ·have : bY k lo hi (s.drop p) = none := by unfold bY; rw [if_pos (by rw [List.length_drop]; omega)]
  rw [this]
  refine (nD R W a cap s p k lo hi h.rd h.ln h.le (by omega) hk7).mono ?_
  rintro e w' ⟨he, hr, hk⟩
  exact ⟨2, s.length, he, by decide, by omega, by omega, hr, hk⟩
end
section
open Go.RowKit
attribute [local go_sem] IsBlk.cell IsBlk.frozen
def aB {α : Type} (p : Pz α) (n : Nat) (l : List α) : Pz (List α) := (p.rep n).bind fun m => Pz.pure (l ++ m)
theorem ei {α : Type} (p : Pz α) (n : Nat) : p.rep n = aB p n [] := by
 funext s
 unfold aB Pz.bind Pz.pure
 cases h : p.rep n s with
 | none => rfl
 | some z => obtain ⟨x, r⟩ := z; simp
theorem mZ {α : Type} (p : Pz α) (l : List α) (s : List Int) : aB p 0 l s = some (l, s) := by simp [aB, Pz.rep, Pz.bind, Pz.pure]
theorem kR {α : Type} {p : Pz α} {n : Nat} {l : List α} {s : List Int} (h : p s = none) : aB p (n + 1) l s = none := by simp [aB, Pz.rep, Pz.bind, h]
theorem kK {α : Type} {p : Pz α} {n : Nat} {l : List α} {s r : List Int} {x : α} (h : p s = some (x, r)) : aB p (n + 1) l s = aB p n (l ++ [x]) r := by
 simp only [aB, Pz.rep, Pz.bind, h]
 cases p.rep n r with
 | none => rfl
 | some z => obtain ⟨y, r2⟩ := z; simp [Pz.pure]
theorem ca {α β : Type} {p : Pz α} {l : List α} {K : List α → Pz β} {s : List Int} : (aB p 0 l).bind K s = K l s := Pz.some (mZ p l s)
theorem yq {α β : Type} {p : Pz α} {n : Nat} {l : List α} {K : List α → Pz β} {s : List Int} (h : p s = none) : (aB p (n + 1) l).bind K s = none := Pz.none (kR h)
theorem bI {α β : Type} {p : Pz α} {n : Nat} {l : List α} {K : List α → Pz β} {s r : List Int} {x : α} (h : p s = some (x, r)) : (aB p (n + 1) l).bind K s = (aB p n (l ++ [x])).bind K r := by
 unfold Pz.bind; rw [kK h]
theorem nR {k : Nat} {lo hi n : Int} {s r : List Int} (h : bY k lo hi s = some (n, r)) : lo ≤ n ∧ n ≤ hi := by
 unfold bY at h
 split at h
 ·cases h
 ·split at h
  ·rename_i h2
   obtain ⟨rfl, _⟩ := by simpa using h
   exact h2
  ·cases h
theorem qJ {α : Type} {p : Pz α} {k : Nat} {hi : Int} {n : Int} {s r : List Int} (h : bY k 0 hi s = some (n, r)) : ((bY k 0 hi).bind fun n => p.rep n.toNat) s = aB p n.toNat [] r := by
 rw [Pz.some h, ei]
theorem pV {α : Type} {p : Pz α} {k : Nat} {hi : Int} {s : List Int} (h : bY k 0 hi s = none) : ((bY k 0 hi).bind fun n => p.rep n.toNat) s = none := Pz.none h
theorem ae.kp {R : Nat} {W W' : World} {base : Nat} {v : Value} {zs : List Int} (h : ae W base v zs) (k : Kp R W W') (hR : R < base) : ae W' base v zs := by
 obtain ⟨h1, h⟩ := h
 refine ⟨h1, ?_⟩
 rcases h with h | ⟨g, cap, cur, e, hg, hc, h3, h4, h5, h6⟩
 ·exact .inl h
 ·exact .inr ⟨g, cap, cur, e, hg, by rw [k.same _ (by omega) (Array.getElem?_eq_some_iff.1 hc).1]; exact hc, h3, h4, h5, h6⟩
theorem ae.own {w : World} {base : Nat} {v : Value} {zs : List Int} (h : ae w base v zs) {k : Nat} (hk : v.ownBlock = some k) : base ≤ k := by
 obtain ⟨_, h⟩ := h
 rcases h with ⟨rfl, _⟩ | ⟨g, cap, cur, rfl, hg, _⟩
 ·simp [Value.ownBlock] at hk
 ·simp [Value.ownBlock] at hk; omega
theorem Kp.grown {R : Nat} {W wr w1 : World} {row : Option Nat} (h : Kp R W wr) (hg : wr.grownBy w1 row) (hR : R < W.heap.size) (hrow : ∀ k, row = some k → W.heap.size ≤ k) : Kp R W w1 := by
 have hs := h.size
 refine ⟨Nat.le_trans hs hg.size, fun j h1 h2 => ?_, fun B w0 hB hb => ?_⟩
 ·rw [hg.block j (by omega) (fun e => by have := hrow j e.symm; omega)]; exact h.same j h1 h2
 ·exact (h.bel B w0 hB hb).grown hg (by omega) (fun k hk => by have := hrow k hk; omega)
theorem RdS.grown {R : Nat} {W wr w1 : World} {row : Option Nat} {a : Option Addr} {cap : Nat} {s : List Int} {p0 c0 f0 p c f : Int} (h0 : RdS R W a cap s p0 c0 f0) (h : RdS R wr a cap s p c f) (k : Kp R W wr) (hg : wr.grownBy w1 row) (hrow : ∀ k, row = some k → W.heap.size ≤ k) : RdS R w1 a cap s p c f := by
 have hlt := h0.lt
 exact h0.to (k.grown hg hlt hrow) ((hg.block R h.lt (fun e => by have := hrow R e.symm; omega)).trans h.blk)
theorem RdP.mk' {R : Nat} {W wr : World} {a : Option Addr} {cap : Nat} {s : List Int} {p q : Nat} (h : RdP R W a cap s p) (hr : RdS R wr a cap s q 0 0) (hq : q ≤ s.length) : RdP R wr a cap s q := ⟨hr, hq, h.ln, h.cp, h.by'⟩
theorem Kp.own {R : Nat} {W wr : World} {b i : Nat} {v : Value} (h : Kp R W wr) (hR : R < W.heap.size) (hb : W.heap.size ≤ b) : Kp R W (wr.setCell ⟨b, i, none⟩ v) := by
 refine ⟨by simp only [World.setCell, Array.size_modify]; exact h.size, fun j h1 h2 => ?_, fun B w0 hB hb0 => ?_⟩
 ·rw [Below.heap_setCell _ _ _ _ (by show j ≠ b; omega)]; exact h.same j h1 h2
 ·exact (h.bel B w0 hB hb0).setCell (p := ⟨b, i, none⟩) (by show B ≤ b; omega) _
theorem Kp.owns {R : Nat} {W wr : World} {b i : Nat} {vs : List Value} (h : Kp R W wr) (hR : R < W.heap.size) (hb : W.heap.size ≤ b) : Kp R W (wr.setCells b i vs) := by
 refine ⟨by rw [aY]; exact h.size, fun j h1 h2 => ?_, fun B w0 hB hb0 => ?_⟩
 ·rw [ar _ _ (by omega)]; exact h.same j h1 h2
 ·exact al _ _ (h.bel B w0 hB hb0) (by omega)
theorem Kp.more {R : Nat} {W wr : World} (o : Obj) (h : Kp R W wr) (hR : R < W.heap.size) : Kp R W (wr.alloc o) := h.trans (Kp.of ((Below.refl _ _).alloc (Nat.le_refl _) _) (by have := h.size; omega))
theorem RdS.own {R : Nat} {W wr : World} {a : Option Addr} {cap : Nat} {s : List Int} {p0 c0 f0 p c f : Int} {b i : Nat} {v : Value} (h0 : RdS R W a cap s p0 c0 f0) (h : RdS R wr a cap s p c f) (k : Kp R W wr) (hb : W.heap.size ≤ b) : RdS R (wr.setCell ⟨b, i, none⟩ v) a cap s p c f :=
 h0.to (k.own h0.lt hb) (by have := h0.lt; rw [Below.heap_setCell _ _ _ _ (by show R ≠ b; omega)]; exact h.blk)
theorem RdS.owns {R : Nat} {W wr : World} {a : Option Addr} {cap : Nat} {s : List Int} {p0 c0 f0 p c f : Int} {b i : Nat} {vs : List Value} (h0 : RdS R W a cap s p0 c0 f0) (h : RdS R wr a cap s p c f) (k : Kp R W wr) (hb : W.heap.size ≤ b) : RdS R (wr.setCells b i vs) a cap s p c f :=
 h0.to (k.owns h0.lt hb) (by have := h0.lt; rw [ar _ _ (by omega)]; exact h.blk)
theorem RdS.more {R : Nat} {wr : World} {a : Option Addr} {cap : Nat} {s : List Int} {p c f : Int} (o : Obj) (h : RdS R wr a cap s p c f) : RdS R (wr.alloc o) a cap s p c f := h.below ((Below.refl _ _).alloc (Nat.le_refl _) _)
theorem aG.no {α : Type} {R : Nat} {W w' : World} {a : Option Addr} {cap : Nat} {s : List Int} {val : World → α → Value → Prop} {o : Option (α × List Int)} {c f : Int} (ho : o = none) (h1 : c ≠ 0) (h2 : 0 ≤ f) (h3 : f ≤ s.length) (h4 : Kp R W w') :
  aG R W w' a cap s val o (.panicked [{ v := .iface 37 (.agg #[.int .i64 c, .int .i64 f]), recovered := false }]) := by
 subst ho; exact ⟨c, f, rfl, h1, h2, h3, h4⟩
theorem aG.yes {α : Type} {R : Nat} {W w' : World} {a : Option Addr} {cap : Nat} {s : List Int} {val : World → α → Value → Prop} {o : Option (α × List Int)} {x : α} {q : Nat} {v : Value} (ho : o = some (x, s.drop q)) (h1 : val w' x v) (h2 : q ≤ s.length) (h3 : RdS R w' a cap s (q : Nat) 0 0) (h4 : Kp R W w') :
  aG R W w' a cap s val o (.returned v) := by
 subst ho; exact ⟨v, q, rfl, h1, rfl, h2, h3, h4⟩
def xK (base : Nat) : World → List Int → Value → Prop := fun w l v => ae w base v l
theorem m3 (R : Nat) (W : World) (a : Option Addr) (cap : Nat) (s : List Int) (p : Nat) (h : RdP R W a cap s p) :
  Calls Tryz.prog 122 #[.agg #[.pointer (some ⟨R, 0, none⟩)]] W fun e w' => aG R W w' a cap s (xK W.heap.size) (i8 (s.drop p)) e := by
 have hlt := h.rd.lt
 have H := Lib.hid h
 clear h
 go_enter Tryz.func122, Tryz.ntmps122
 go_wp2_with fail
 go_at_call 42; refine (bx R _ a cap s p 1 0 8 (H.out.below (by exact yd)) (by omega) (by omega)).mono ?_; rintro e w1 h1
 cases hO : bY 1 0 8 (s.drop p) with
 | none =>
  rw [hO] at h1
  obtain ⟨c, f, he, h2, h3, h4, h5⟩ := h1
  unfold aW dt at he; subst he
  exact ⟨rfl, aG.no (pV hO) h2 h3 h4 (h5.alloc _ hlt)⟩
 | some x =>
  obtain ⟨n, r⟩ := x
  have hnb := nR hO
  have HRW : Hid (i8 (s.drop p) = aB (bY 1 0 7) n.toNat [] r) := Lib.hid (qJ hO)
  rw [hO] at h1
  obtain ⟨v, p1, rfl, rfl, h3, h4, h5, h6⟩ := h1
  obtain ⟨m, rfl⟩ := Int.eq_ofNat_of_zero_le hnb.1
  have hm8 : m ≤ 8 := by omega
  haveI iX : IsBlk w1 W.heap.size #[.pointer (some ⟨R, 0, none⟩)] 120 := h6.blk (b := W.heap.size) inferInstance (by omega)
  have hk1 : Kp R W w1 := h6.alloc _ hlt
  rw [h3] at HRW
  clear h6 hO h3
  go_wp2
  go_loopw [3, 6] (fun l i wr => ∃ (j : Nat) (zs : List Int) (q : Nat), j ≤ m ∧ i = .int .i64 j ∧ zs.length = j ∧ q ≤ s.length ∧ ae wr (W.heap.size + 1) l zs ∧ RdS R wr a cap s q 0 0 ∧ Kp R W wr ∧ IsBlk wr W.heap.size #[.pointer (some ⟨R, 0, none⟩)] 120 ∧ Hid (i8 (s.drop p) = aB (bY 1 0 7) (m - j) zs (s.drop q))) (fun _ i _ => m - (intOf i).toNat)
  case atStart => exact ⟨0, [], p1, Nat.zero_le _, rfl, rfl, h4, ae.nil _ _, h5, hk1, iX, HRW⟩
  case round =>
   clear iX hk1 h5 h4 HRW
   obtain ⟨j, zs, q, hj, rfl, hzl, hq, hown, hrd, hk, iX, HRW⟩ := hrel
   have hsz := hk.size
   haveI := iX
   have lX := iX.le.out
   haveI : LeSize W.heap.size wr := ⟨hsz⟩
   by_cases hjm : j < m
   ·have hjI : (j : Int) < m := by omega
    go_wp2_with fail
    go_at_call 42; refine (bx R _ a cap s q 1 0 7 (H.out.mk' hrd hq) (by omega) (by omega)).mono ?_; rintro e w2 h1
    cases hO : bY 1 0 7 (s.drop q) with
    | none =>
     rw [hO] at h1
     obtain ⟨c, f, he, h2, h3, h4, h5⟩ := h1
     unfold aW dt at he; subst he
     exact ⟨rfl, aG.no (by rw [HRW.out, show m - j = (m - j - 1) + 1 by omega, kR hO]) h2 h3 h4 (hk.trans h5)⟩
    | some x =>
     obtain ⟨n, r⟩ := x
     have HR2 : Hid (i8 (s.drop p) = aB (bY 1 0 7) (m - (j + 1)) (zs ++ [n]) r) := Lib.hid (by rw [HRW.out, show m - j = (m - (j + 1)) + 1 by omega, kK hO])
     rw [hO] at h1
     obtain ⟨v, q2, rfl, rfl, rfl, h4, h5, h6⟩ := h1
     have hown2 := hown.kp h6 (by omega)
     have hk2 := hk.trans h6
     haveI iX2 : IsBlk w2 W.heap.size #[.pointer (some ⟨R, 0, none⟩)] 120 := h6.blk iX (by omega)
     have lX2 := iX2.le.out
     go_wp2_with (at_builtin; refine ju rfl _ _ rfl (W.heap.size + 1) rfl (hown2.alloc _) (b := w2.heap.size) (y := n) rfl (by simp) (by omega) (by simp; omega) ?_; intro v' w3 hown' hg)
     have hka : Kp R W (w2.alloc (.cells #[.int .i64 n] 3)) := hk2.trans (Kp.of ((Below.refl _ _).alloc (Nat.le_refl _) _) (by omega))
     have hrda := h5.below ((Below.refl _ _).alloc (Nat.le_refl _) (.cells #[.int .i64 n] 3))
     have hXg : IsBlk w3 W.heap.size #[.pointer (some ⟨R, 0, none⟩)] 120 := ⟨by rw [hg.block _ (by simp; omega) (fun e => by have := hown2.own e.symm; omega)]; exact (inferInstance : IsBlk (w2.alloc (.cells #[.int .i64 n] 3)) W.heap.size #[.pointer (some ⟨R, 0, none⟩)] 120).out⟩
     go_wp2
     go_roundw
     case rel => exact ⟨j + 1, zs ++ [n], q2, by omega, by go_num, by simp [hzl], h4, hown', H.out.rd.grown hrda hka hg (fun k hk => by have := hown2.own hk; omega), hka.grown hg hlt (fun k hk => by have := hown2.own hk; omega), hXg, HR2⟩
     case measure => simp [intOf]; omega
   ·obtain rfl : j = m := by omega
    go_wp2
    go_ret
    exact aG.yes (by rw [HRW.out, Nat.sub_self, mZ]) (hown.less (by omega)) hq hrd hk
end
section
open Go.RowKit
attribute [local go_sem] IsBlk.cell IsBlk.frozen
theorem jM (R : Nat) (W : World) (a : Option Addr) (cap : Nat) (s : List Int) (p : Nat) (h : RdP R W a cap s p) :
  Calls Tryz.prog 172 #[.agg #[.pointer (some ⟨R, 0, none⟩)]] W fun e w' => aG R W w' a cap s xN (oZ (s.drop p)) e := by
 have hlt := h.rd.lt
 have HN : Hid (∀ W', Below W.heap.size W W' → Calls Tryz.prog 119 #[.pointer (some ⟨R, 0, none⟩), .int .i64 1, .int .i64 0, .int .i64 1] W' fun e w' => xl R W' w' a cap s p (bY 1 0 1 (s.drop p)) e) := Lib.hid fun W' hW => tJ R W' a cap s p 1 0 1 (h.below hW) (by omega) (by omega)
 clear h
 unfold oZ Pz.bind Pz.pure
 cases hO : bY 1 0 1 (s.drop p) with
 | none =>
  rw [hO] at HN
  have HB : Hid (∀ W', Below W.heap.size W W' → Calls Tryz.prog 207 #[.pointer (some ⟨R, 0, none⟩)] W' fun e w' => ∃ (c f : Int), e = .returned (.bool false) ∧ c ≠ 0 ∧ 0 ≤ f ∧ f ≤ s.length ∧ RdS R w' a cap s p c f ∧ Kp R W' w') := Lib.hid fun W' hW => by
   go_enter Tryz.func207, Tryz.ntmps207
   go_wp2_with fail
   go_at_call 119; refine (HN.out _ hW).mono ?_; rintro e w1 h1; obtain ⟨c, f, rfl, h2, h3, h4, h5, h6⟩ := h1
   go_wp2_with fail
   go_ret
   exact ⟨c, f, rfl, h2, h3, h4, h5, h6⟩
  go_enter Tryz.func172, Tryz.ntmps172
  go_wp2_with fail
  go_at_call 207; refine (HB.out _ (by exact yd)).mono ?_; rintro e w1 h1; obtain ⟨c, f, rfl, h2, h3, h4, h5, h6⟩ := h1
  haveI iX : IsBlk w1 W.heap.size #[.pointer (some ⟨R, 0, none⟩)] 120 := h6.blk (b := W.heap.size) inferInstance (by omega)
  go_wp2_with fail
  go_at_call 120; refine (iw R w1 _ cap s _ c f h5 h2).mono ?_; rintro e w' ⟨he, hb⟩; unfold aW dt at he; subst he
  exact ⟨rfl, c, f, rfl, h2, h3, h4, (h6.alloc _ hlt).trans (Kp.of hb h5.lt)⟩
 | some x =>
  obtain ⟨n, r⟩ := x
  rw [hO] at HN
  have HB : Hid (∀ W', Below W.heap.size W W' → Calls Tryz.prog 207 #[.pointer (some ⟨R, 0, none⟩)] W' fun e w' => ∃ p', e = .returned (.bool (n == 1)) ∧ r = s.drop p' ∧ p' ≤ s.length ∧ RdS R w' a cap s (p' : Nat) 0 0 ∧ Kp R W' w') := Lib.hid fun W' hW => by
   go_enter Tryz.func207, Tryz.ntmps207
   go_wp2_with fail
   go_at_call 119; refine (HN.out _ hW).mono ?_; rintro e w1 h1; obtain ⟨p', rfl, h2, h3, h4, h5⟩ := h1
   go_wp2_with fail
   go_ret
   exact ⟨p', rfl, h2, h3, h4, h5⟩
  obtain ⟨bb, hbb⟩ : ∃ bb, (n == 1) = bb := ⟨_, rfl⟩
  rw [hbb] at HB
  have HBB := Lib.hid hbb
  clear hbb HN hO
  go_enter Tryz.func172, Tryz.ntmps172
  go_wp2_with fail
  go_at_call 207; refine (HB.out _ (by exact yd)).mono ?_; rintro e w1 h1; obtain ⟨p', rfl, h2, h3, h4, h5⟩ := h1
  haveI iX : IsBlk w1 W.heap.size #[.pointer (some ⟨R, 0, none⟩)] 120 := h5.blk (b := W.heap.size) inferInstance (by omega)
  go_wp2_with fail
  go_at_call 120; refine (Up.run (il R w1 _ cap s _ 0 h4)).mono ?_; rintro e w' ⟨rfl, u, rfl⟩
  go_wp2_with fail
  go_ret
  exact ⟨_, p', rfl, by show _ = Value.bool (n == 1); rw [HBB.out]; rfl, h2, h3, h4.below u.bel, (h5.alloc _ hlt).trans (Kp.of u.bel h4.lt)⟩
end
section
open Go.RowKit
attribute [local go_sem] IsBlk.cell IsBlk.frozen
theorem sq (N x : Nat) (c f : Int) (w : World) [hN : IsBlk w N #[.float .f64 x] 56] :
  CallsD Tryz.prog 239 #[.pointer (some ⟨N, 0, none⟩)] (.panicking [{ v := .iface 37 (.agg #[.int .i64 c, .int .i64 f]), recovered := false }]) w fun e u' w' =>
   e = .returned (.tuple #[]) ∧ u' = .panicking [{ v := .iface 37 (.agg #[.int .i64 c, .int .i64 f]), recovered := true }] ∧ w' = (w.setCell ⟨N, 0, none⟩ (.float .f64 0)).alloc (.cells #[.int .i64 c, .int .i64 f] 37) := by
 have h1 := j7 (.agg #[.int .i64 c, .int .i64 f])
 have l := hN.le
 refine callsD_of_wpS Tryz.func239 rfl fun c₀ cs hu => ?_
 apply wpS_seq
 apply wpS_region
 rw [List.range_eq_range']
 simp only [Tryz.ntmps239, List.size_toArray, List.length_cons, List.length_nil, Nat.reduceAdd, Nat.reduceSub, Array.replicate_succ, Array.replicate_zero, List.push_toArray, List.append_toArray, List.nil_append, List.cons_append]
 rw [show List.range' 0 8 = 0 :: List.range' 1 7 from rfl]
 have hc : recoverD (c₀ :: cs) = some (.iface 37 (.agg #[.int .i64 c, .int .i64 f]), { c₀ with mode := .panicking [{ v := .iface 37 (.agg #[.int .i64 c, .int .i64 f]), recovered := true }] } :: cs) := by
  simp only [recoverD, hu]
 generalize hrest : List.range' 1 7 = rest
 refine gz rfl rfl hc ?_
 simp only [Act.put, List.setIfInBounds_toArray, List.set_cons_succ, List.set_cons_zero]
 rw [← hrest]
 clear hrest
 refine cJ 1 7 (by rfl) ?_ ?_
 ·rintro ⟨a, w1, h⟩
  obtain ⟨u', h1, _⟩ := h
  cases h1
 ·simp only [List.drop_succ_cons, List.drop_zero]
  clear hc hu
  go_wp2
  refine wpS_of_wp ?_
  go_wp2
  exact ⟨rfl, _, rfl, .tuple #[], by simp [results, Tryz.results239], rfl, rfl, rfl⟩
theorem acR (N : Nat) (w : World) :
  CallsD Tryz.prog 239 #[.pointer (some ⟨N, 0, none⟩)] .returning w fun e u' w' =>
   e = .returned (.tuple #[]) ∧ u' = .returning ∧ w' = w.alloc (.cells #[.int .i64 0, .int .i64 0] 37) := by
 have h1 := nZ
 refine callsD_of_wpS Tryz.func239 rfl fun c₀ cs hu => ?_
 apply wpS_seq
 apply wpS_region
 rw [List.range_eq_range']
 simp only [Tryz.ntmps239, List.size_toArray, List.length_cons, List.length_nil, Nat.reduceAdd, Nat.reduceSub, Array.replicate_succ, Array.replicate_zero, List.push_toArray, List.append_toArray, List.nil_append, List.cons_append]
 rw [show List.range' 0 8 = 0 :: List.range' 1 7 from rfl]
 have hc : recoverD (c₀ :: cs) = none := by
  simp only [recoverD, hu]
 have HCC : Hid (c₀ = { c₀ with mode := .returning }) := Lib.hid (by cases c₀; simp_all)
 generalize hrest : List.range' 1 7 = rest
 refine fR rfl rfl hc ?_
 simp only [Act.put, List.setIfInBounds_toArray, List.set_cons_succ, List.set_cons_zero]
 rw [← hrest]
 clear hrest
 refine cJ 1 7 (by rfl) ?_ ?_
 ·rintro ⟨a, w1, h⟩
  obtain ⟨u', h1, _⟩ := h
  cases h1
 ·simp only [List.drop_succ_cons, List.drop_zero]
  clear hc hu
  go_wp2
  refine wpS_of_wp ?_
  go_wp2
  exact ⟨rfl, .returning, congrArg (· :: cs) HCC.out, .tuple #[], by simp [results, Tryz.results239], rfl, rfl, rfl⟩
end
section
open Go.RowKit
attribute [local go_sem] IsBlk.cell IsBlk.frozen
theorem uP (R : Nat) (W : World) (b off cap : Nat) (s : List Int) (p : Nat) (h : RdS R W (some ⟨b, off, none⟩) cap s p 0 0) (hl : s.length ≤ 100000) (hp : p + 8 ≤ s.length) (hcp : cap ≤ 9223372036854775807) (hby : aH s) :
  Calls Tryz.prog 208 #[.pointer (some ⟨R, 0, none⟩)] W fun e w' => e = .returned (.float .f64 (bg 0 (yy s p 8)).toNat) ∧ RdS R w' (some ⟨b, off, none⟩) cap s (p + 8 : Nat) 0 0 ∧ Kp R W w' := by
 have hmf : ∀ (fn : Fn) (first cap : Array Value) (w : World), (Instr.makeFunc fn first cap).run Tryz.prog w = .ok (.func fn first cap) w := fun _ _ _ _ => rfl
 have hfb : ∀ (v : Int) (w : World), Sem.run Tryz.prog (callFunc 166 #[.int .u64 v]) w = .ok (.value (.float .f64 v.toNat)) w := fun v w => by kernel_rfl
 have HW : Hid (∀ W', RdS R W' (some ⟨b, off, none⟩) cap s p 0 0 → Calls Tryz.prog 169 #[.pointer (some ⟨R, 0, none⟩), .int .i64 8] W' fun e w' => e = .returned (.int .u64 (bg 0 (yy s p 8))) ∧ ∃ u : Up W', w' = u.w) := Lib.hid fun W' h' => Up.run (ii R W' b off cap s p 8 h' hl hp (by omega) (by omega) hcp hby)
 have H := Lib.hid h
 haveI i : IsBlk W R #[.slice (some ⟨b, off, none⟩) s.length cap, .int .i64 p, .int .i64 0, .int .i64 0] 179 := ⟨h.blk⟩
 have l := i.le
 clear h hby
 generalize bg 0 (yy s p 8) = v at *
 have hfb := hfb v
 have hpI : (p : Int) ≤ 100000 := by omega
 go_enter_defers Tryz.func208, Tryz.ntmps208
 go_wp2_with (go_at_call 169; refine (HW.out _ (H.out.below (by exact yd))).mono ?_; rintro e w' ⟨rfl, u, rfl⟩)
 obtain ⟨W3, hW3⟩ : ∃ W3, (((u.w.setCell ⟨W.heap.size, 0, none⟩ (.float .f64 v.toNat)).setCell ⟨R, 1, none⟩ (.int .i64 ((p : Int) + 8))).setCell ⟨W.heap.size, 0, none⟩ (.float .f64 v.toNat)) = W3 := ⟨_, rfl⟩
 have hRW := H.out.lt
 have hc3 : W3.cell? ⟨W.heap.size, 0, none⟩ = some (.float .f64 v.toNat) := by rw [← hW3]; exact fQ _ _ _
 have hub : Below W.heap.size W u.w := by exact yd
 have hk3 : Kp R W W3 := by
  rw [← hW3]
  refine ⟨by simp only [World.setCell, Array.size_modify]; exact hub.size, fun j h1 h2 => ?_, fun B w0 hB hb => ?_⟩
  ·rw [Below.heap_setCell _ _ _ _ (by show j ≠ W.heap.size; omega), Below.heap_setCell _ _ _ _ (by show j ≠ R; exact h1), Below.heap_setCell _ _ _ _ (by show j ≠ W.heap.size; omega)]
   exact hub.block j h2
  ·exact (((hb.trans (hub.mono (by omega))).setCell (p := ⟨W.heap.size, 0, none⟩) (by show B ≤ W.heap.size; omega) _).setCell (p := ⟨R, 1, none⟩) hB _).setCell (p := ⟨W.heap.size, 0, none⟩) (by show B ≤ W.heap.size; omega) _
 have hr3 : RdS R W3 (some ⟨b, off, none⟩) cap s (p + 8 : Nat) 0 0 := by
  refine H.out.to hk3 ?_
  rw [← hW3, Below.heap_setCell _ _ _ _ (by show R ≠ W.heap.size; omega)]
  have e1 : (u.w.setCell ⟨W.heap.size, 0, none⟩ (.float .f64 v.toNat)).heap[R]? = some (.cells (vN (some ⟨b, off, none⟩) s.length cap p 0 0) 179) := by
   rw [Below.heap_setCell _ _ _ _ (by show R ≠ W.heap.size; omega)]; exact (hub.block R hRW).trans H.out.blk
  exact (ao e1 1 _).trans (by simp only [vN, List.setIfInBounds_toArray, List.set_cons_succ, List.set_cons_zero]; rfl)
 rw [hW3]
 have hl3 : W.heap.size < W3.heap.size := World.block_lt_of_cell? _ _ hc3
 refine leaves_cons (f := 239) (args := #[.pointer (some ⟨W.heap.size, 0, none⟩)]) (by simp) (by simp [go_sem]) ?_
 refine (acR W.heap.size _).mono ?_
 rintro e u' w'' ⟨rfl, rfl, rfl⟩
 have hc4 : (W3.alloc (.cells #[.int .i64 0, .int .i64 0] 37)).cell? ⟨W.heap.size, 0, none⟩ = some (.float .f64 v.toNat) := (World.cell?_alloc_past _ _ _ hl3).trans hc3
 clear hW3 hc3
 refine ⟨.float .f64 v.toNat, ?_, rfl, hr3.below ((Below.refl _ _).alloc (Nat.le_refl _) _), hk3.trans (Kp.of ((Below.refl _ _).alloc (Nat.le_refl _) _) hr3.lt)⟩
 simp [results, Tryz.results208, go_sem, hc4]
end
section
open Go.RowKit
attribute [local go_sem] IsBlk.cell IsBlk.frozen
theorem r8 (R : Nat) (W : World) (a : Option Addr) (cap : Nat) (s : List Int) (p : Nat) (h : RdS R W a cap s p 0 0) (hl : s.length ≤ 100000) (hp : p ≤ s.length) (hk : s.length < p + 8) :
  Calls Tryz.prog 208 #[.pointer (some ⟨R, 0, none⟩)] W fun e w' => e = .returned (.float .f64 0) ∧ RdS R w' a cap s p 2 s.length ∧ Kp R W w' := by
 have hmf : ∀ (fn : Fn) (first cap : Array Value) (w : World), (Instr.makeFunc fn first cap).run Tryz.prog w = .ok (.func fn first cap) w := fun _ _ _ _ => rfl
 have HW : Hid (∀ W', RdS R W' a cap s p 0 0 → Calls Tryz.prog 169 #[.pointer (some ⟨R, 0, none⟩), .int .i64 8] W' fun e w' => e = aW 2 s.length ∧ RdS R w' a cap s p 2 s.length ∧ Kp R W' w') := Lib.hid fun W' h' => kU R W' a cap s p 8 h' hl hp hk
 have H := Lib.hid h
 have hRW := h.lt
 clear h
 go_enter_defers Tryz.func208, Tryz.ntmps208
 go_wp2_with (go_at_call 169; refine (HW.out _ (H.out.below (by exact yd))).mono ?_; rintro e w1 ⟨he, hr2, hk2⟩; unfold aW dt at he; subst he)
 haveI iN : IsBlk w1 W.heap.size #[.float .f64 0] 56 := hk2.blk (b := W.heap.size) inferInstance (by omega)
 have hnl := iN.le.out
 refine leaves_cons (f := 239) (args := #[.pointer (some ⟨W.heap.size, 0, none⟩)]) (by simp) (by simp [go_sem]) ?_
 refine (sq W.heap.size 0 2 s.length w1).mono ?_
 rintro e u' w'' ⟨rfl, rfl, rfl⟩
 have hc3 : (w1.setCell ⟨W.heap.size, 0, none⟩ (.float .f64 0)).cell? ⟨W.heap.size, 0, none⟩ = some (.float .f64 0) := World.cell?_setCell_same' w1 ⟨W.heap.size, 0, none⟩ _ (by rw [IsBlk.cell]; rfl)
 have hc4 : ((w1.setCell ⟨W.heap.size, 0, none⟩ (.float .f64 0)).alloc (.cells #[.int .i64 2, .int .i64 s.length] 37)).cell? ⟨W.heap.size, 0, none⟩ = some (.float .f64 0) := (World.cell?_alloc_past _ _ _ (World.block_lt_of_cell? _ _ hc3)).trans hc3
 have hk3 : Kp R W (w1.setCell ⟨W.heap.size, 0, none⟩ (.float .f64 0)) := by
  have hk1 : Kp R W w1 := hk2.alloc _ hRW
  refine ⟨by simp only [World.setCell, Array.size_modify]; exact hk1.size, fun j h1 h2 => ?_, fun B w0 hB hb => ?_⟩
  ·rw [Below.heap_setCell _ _ _ _ (by show j ≠ W.heap.size; omega)]; exact hk1.same j h1 h2
  ·exact (hk1.bel B w0 hB hb).setCell (p := ⟨W.heap.size, 0, none⟩) (by show B ≤ W.heap.size; omega) _
 have hr3 : RdS R (w1.setCell ⟨W.heap.size, 0, none⟩ (.float .f64 0)) a cap s p 2 s.length := H.out.to hk3 (by rw [Below.heap_setCell _ _ _ _ (by show R ≠ W.heap.size; omega)]; exact hr2.blk)
 refine ⟨.float .f64 0, ?_, rfl, hr3.below ((Below.refl _ _).alloc (Nat.le_refl _) _), hk3.trans (Kp.of ((Below.refl _ _).alloc (Nat.le_refl _) _) hr3.lt)⟩
 simp [results, Tryz.results208, go_sem, hc4]
end
end Go.Proofs.YtodgfjgljcinlaaGreat
