/- Part Qs of the proof: WrtA, WrtB. -/
import Derived.Test.YtodgfjgljcinlaaGreatQf
import Derived.Test.YtodgfjgljcinlaaGreatQb
import Derived.Test.YtodgfjgljcinlaaGreatQd
import Derived.Test.YtodgfjgljcinlaaGreatQe
import Derived.Laws.AppendOwnNone
namespace Go.Proofs.YtodgfjgljcinlaaGreat
set_option maxHeartbeats 8000000
set_option maxRecDepth 100000
set_option linter.unusedVariables false
section
open Go.RowKit
theorem yn.grown0 {B : Nat} {w0 wr w1 : World} {v : Value} {zs : List Int} {base : Nat} (hown : yn wr base v zs) (hb : Below B w0 wr) (hB : B ≤ wr.heap.size) (hbase : B ≤ base) (hg : wr.grownBy w1 v.ownBlock) : Below B w0 w1 := by
 refine hb.grown hg hB (fun k hk => ?_)
 rcases hown.2 with ⟨rfl, _⟩ | ⟨g, cap, cur, rfl, hg, _⟩
 ·simp [Value.ownBlock] at hk
 ·simp [Value.ownBlock] at hk; omega
theorem kt {ops : Array Oper} {rest : List Oper} {o : Oper} {a : Act} {w : World} {Q : Exit → Act → World → Prop} (hgd : o.guard = none) (s x : Operand)
  (ho : o.op = .call { callee := .builtin .append, args := #[s, x], argTypes := #[22, 22] })
  (hs : a.eval s = .slice none 0 0) {ad : Option Addr} {zs : List Int} {cap : Nat} (hx : a.eval x = .slice ad zs.length cap) (hi : bj w ad zs) (hn : zs.length ≤ 1000000) (hnone : ad = none → zs.length = 0 ∧ cap = 0)
  (h : ∀ v' w', yn w' w.heap.size v' zs → Below w.heap.size w w' → wpList Tryz.prog ops Q rest (a.put o.dst v') w') : wpList Tryz.prog ops Q (o :: rest) a w := by
 obtain ⟨i0, hinfo, hz0, hz1, hz2⟩ := info_parts je
 cases ad with
 | none =>
  obtain ⟨h0, rfl⟩ := hnone rfl
  have : zs = [] := List.eq_nil_of_length_eq_zero h0
  subst this
  exact wpList_append_own_none hgd s x 22 ho w.heap.size 5 i0 1 Tryz.underlying22 hinfo (.slice none 0 0) 0 [] hs ⟨rfl, .inl ⟨rfl, rfl⟩⟩ hx (h _ _ (yn.nil _ _) (Below.refl _ _))
 | some p =>
  refine wpList_append_own w hgd s x 22 ho w.heap.size 5 i0 (.int .u8 0) 1 1 Tryz.underlying22 hinfo hz0 hz1 hz2 rfl (by decide) (.slice none 0 0) 0 [] hs ⟨rfl, .inl ⟨rfl, rfl⟩⟩ p zs.length cap (zs.map (Value.int .u8)) hx (by simp) ?_ ?_ ?_ ?_ (Nat.le_refl _) (fun v' w' h1 h2 _ => h v' w' ?_ ?_)
  ·intro j u hj
   rw [List.getElem?_map] at hj
   obtain ⟨y, hy, rfl⟩ := Option.map_eq_some_iff.1 hj
   have hlt := (List.getElem?_eq_some_iff.1 hy).1
   obtain ⟨b, off, e, hb, hc⟩ := hi.cell (by omega)
   cases e
   rw [Addr.add_mid, hc j hlt]
   simp [List.getD, hy]
  ·intro u hu; obtain ⟨y, _, rfl⟩ := List.mem_map.1 hu; rfl
  ·unfold maxLen; omega
  ·omega
  ·unfold yn; simpa using h1
  ·exact (yn.nil w w.heap.size).grown0 (Below.refl _ _) (Nat.le_refl _) (Nat.le_refl _) h2
theorem rz (a : Option Addr) (cap : Nat) (zs : List Int) (size : Nat) (n : Int) (w : World) (hs8 : size ≤ 8) (hl : zs.length ≤ 100000) (hi : bj w a zs) (hnone : a = none → zs.length = 0 ∧ cap = 0) :
  Calls Tryz.prog 38 #[.slice a zs.length cap, .int .i64 size, .int .i64 n] w fun e w' => ∃ v, e = .returned v ∧ yn w' w.heap.size v (zs ++ an size n) ∧ Below w.heap.size w w' := by
 have HI := Lib.hid hi
 have HN := Lib.hid hnone
 have hsI : (size : Int) ≤ 8 := by omega
 clear hi hnone
 go_enter Tryz.func38, Tryz.ntmps38
 go_wp2_with (first | (at_builtin; refine kt rfl _ _ rfl rfl rfl HI.out (by omega) HN.out ?_; intro v1 w1 hown hb1) | (go_at_call 117; refine (ro _ _ _ _).mono ?_; rintro e w' ⟨rfl, rfl⟩))
 clear HI HN
 go_loopw [7, 8] (fun out i wr => ∃ (k : Nat) (acc : List Int), k ≤ size ∧ i = .int .i64 ((k : Int) - 1) ∧ yn wr w.heap.size out acc ∧ Hid (acc ++ an k n = zs ++ an size n) ∧ acc.length ≤ zs.length + size ∧ Below w.heap.size w wr) (fun _ i _ => (intOf i + 1).toNat)
 case atStart => exact ⟨size, zs, Nat.le_refl _, by (first | rfl | (congr 1; omega)), hown, Lib.hid rfl, by omega, hb1⟩
 case round =>
  clear hown hb1
  obtain ⟨k, acc, hk, rfl, hown, hAC, hla, hb⟩ := hrel
  haveI : LeSize w.heap.size wr := ⟨hb.size⟩
  have hb0 := hb.size
  match k, hk, hAC with
  | 0, hk, hAC =>
   have HE : Hid (acc = zs ++ an size n) := Lib.hid (by rw [← hAC.out]; simp [an])
   clear hAC
   go_wp2
   go_ret
   exact ⟨_, rfl, by rw [← HE.out]; exact hown, hb⟩
  | j + 1, hk, hAC =>
   have hj : ((j + 1 : Nat) : Int) - 1 = (j : Int) := by omega
   rw [hj]
   have hj8 : (j : Int) ≤ 7 := by omega
   have h8 : (8 * (j : Int)).toNat = 8 * j := by omega
   have hby := rH n j
   have HAC : Hid ((acc ++ [eD n j]) ++ an j n = zs ++ an size n) := Lib.hid (by rw [← hAC.out]; simp [an])
   obtain ⟨oa, ocap, rfl, hoi⟩ := hown.opened
   clear hAC hj
   have hfl : acc.length ≤ 1000000 := by omega
   have hbs : w.heap.size ≤ (wr.alloc (.cells #[.int .u8 (eD n j)] 5)).heap.size := by rw [World.size_alloc]; omega
   have HOW := Lib.hid hown
   clear hown hoi
   go_wp2_with (at_builtin; refine gG rfl _ _ rfl w.heap.size rfl (HOW.out.alloc _) (b := wr.heap.size) (y := eD n j) rfl (by rw [World.cell?_alloc_at _ _ _ _ rfl]; rfl) hfl hbs ?_; intro v' w1 hown' hg)
   have hb1 := HOW.out.grown hb hb0 (Nat.le_refl _) hg
   go_roundw
   case rel => exact ⟨j, acc ++ [eD n j], by omega, by go_num, hown', HAC, by have := congrArg List.length HAC.out; simp [aA] at this; simp; omega, hb1⟩
   case measure => first | (simp [intOf]; done) | (simp [intOf]; omega)
theorem yn.nn {w : World} {base : Nat} {v : Value} {zs : List Int} {a : Option Addr} {n cap : Nat} (h : yn w base v zs) (e : v = .slice a n cap) : a = none → zs.length = 0 ∧ cap = 0 := fun ha => by
 subst ha
 obtain ⟨hl, h⟩ := h
 rcases h with ⟨hv, h0⟩ | ⟨g, c, cur, hv, _⟩
 ·rw [hv] at e; cases e; exact ⟨h0, rfl⟩
 ·rw [hv] at e; cases e
end
section
open Go.RowKit
theorem yn.caps {w : World} {base : Nat} {v : Value} {zs : List Int} {a : Option Addr} {n cap : Nat} (h : yn w base v zs) (e : v = .slice a n cap) : n ≤ cap ∧ cap ≤ 9223372036854775807 := by
 obtain ⟨hl, h⟩ := h
 rcases h with ⟨hv, h0⟩ | ⟨g, c, cur, hv, _, _, h1, h2, _⟩
 ·rw [hv] at e; cases e; omega
 ·rw [hv] at e; cases e; unfold maxLen at h2; omega
def ug (w : World) (v : Value) (zs : List Int) : Prop := ∃ a cap, v = .slice a zs.length cap ∧ bj w a zs ∧ (a = none → zs.length = 0 ∧ cap = 0) ∧ zs.length ≤ cap ∧ cap ≤ 9223372036854775807
theorem ug.below {w w' : World} {v : Value} {zs : List Int} (h : ug w v zs) (hb : Below w.heap.size w w') : ug w' v zs := by
 obtain ⟨a, c, e, h1, h2⟩ := h
 exact ⟨a, c, e, bk.below h1 hb (Nat.le_refl _), h2⟩
theorem yn.rdB {w : World} {base : Nat} {v : Value} {zs : List Int} (h : yn w base v zs) : ug w v zs := by
 obtain ⟨a, c, e, h1⟩ := h.opened
 exact ⟨a, c, e, h1, h.nn e, h.caps e⟩
theorem xB {v : Value} {zs : List Int} (size : Nat) (n : Int) (w : World) (hs8 : size ≤ 8) (hl : zs.length ≤ 100000) (h : ug w v zs) :
  Calls Tryz.prog 38 #[v, .int .i64 size, .int .i64 n] w fun e w' => ∃ v', e = .returned v' ∧ ug w' v' (zs ++ an size n) ∧ Below w.heap.size w w' := by
 obtain ⟨a, c, rfl, h1, h2⟩ := h
 refine (rz a c zs size n w hs8 hl h1 h2.1).mono ?_
 rintro e w' ⟨v', rfl, ho, hb⟩
 exact ⟨v', rfl, ho.rdB, hb⟩
theorem aeH {v : Value} {zs : List Int} (x : Nat) (w : World) (hl : zs.length ≤ 100000) (h : ug w v zs) :
  Calls Tryz.prog 91 #[v, .float .f64 x] w fun e w' => ∃ v', e = .returned v' ∧ ug w' v' (zs ++ eO x) ∧ Below w.heap.size w w' := by
 have HI := Lib.hid h
 clear h
 have h1 := jr x w
 have HF := Lib.hid (ox x)
 have HP : Hid (∀ n : Int, Calls Tryz.prog 38 #[v, .int .i64 8, .int .i64 n] w fun e w' => ∃ v', e = .returned v' ∧ ug w' v' (zs ++ an 8 n) ∧ Below w.heap.size w w') := Lib.hid fun n => xB 8 n w (by omega) hl HI.out
 clear HI
 go_enter Tryz.func91, Tryz.ntmps91
 go_wp2_with (go_at_call 38; refine (HP.out _).mono ?_; rintro e w' ⟨v, rfl, ho, hb⟩)
 go_ret
 exact ⟨_, rfl, by rw [← HF.out]; exact ho, hb⟩
theorem ab6 (b : Bool) (w : World) : Calls Tryz.prog 89 #[.bool b] w fun e w' => e = .returned (.int .i64 (fF b)) ∧ w = w' := by
 cases b
 all_goals
  go_enter Tryz.func89, Tryz.ntmps89
  go_wp2
  go_ret
  exact ⟨rfl, rfl⟩
theorem yM (size : Nat) (l : List Int) : (l.flatMap (an size)).length = l.length * size := by
 induction l with
 | nil => simp
 | cons x l ih => rw [List.flatMap_cons, List.length_append, ih, aA, List.length_cons, Nat.succ_mul, Nat.add_comm]
theorem aeJ {v : Value} {zs : List Int} (size : Nat) (b : Option Addr) (c : Nat) (l : List Int) (w : World) (hs8 : size ≤ 8) (hll : l.length ≤ 1000) (hl : zs.length ≤ 50000) (h : ug w v zs) (hi : bQ w b l) :
  Calls Tryz.prog 90 #[v, .int .i64 size, .slice b l.length c] w fun e w' => ∃ v', e = .returned v' ∧ ug w' v' (zs ++ l.flatMap (an size)) ∧ Below w.heap.size w w' := by
 have HI := Lib.hid hi
 have HR := Lib.hid h
 have HS8 := Lib.hid hs8
 clear hi h hs8
 go_enter Tryz.func90, Tryz.ntmps90
 go_wp2
 go_loopw [0, 7] (fun bv i wr => ∃ j : Nat, j ≤ l.length ∧ i = .int .i64 j ∧ ug wr bv (zs ++ (l.take j).flatMap (an size)) ∧ Below w.heap.size w wr) (fun _ i _ => l.length - (intOf i).toNat)
 case atStart => exact ⟨0, Nat.zero_le _, rfl, by simpa using HR.out, Below.refl _ _⟩
 case round =>
  obtain ⟨j, hj, rfl, hR, hb⟩ := hrel
  haveI : LeSize w.heap.size wr := ⟨hb.size⟩
  by_cases hlt : j < l.length
  ·obtain ⟨b', off, rfl, hbw, hc⟩ := HI.out.cell (by omega)
   have c1 : wr.cell? ⟨b', off + j, none⟩ = some (.int .i64 (l.getD j 0)) := by rw [hb.cell (p := ⟨b', off + j, none⟩) hbw]; exact hc j hlt
   have hlen : (zs ++ (l.take j).flatMap (an size)).length ≤ 100000 := by
    have h8 := HS8.out
    rw [List.length_append, yM, List.length_take]
    have : min j l.length * size ≤ 1000 * 8 := Nat.mul_le_mul (by omega) h8
    omega
   have HE : Hid ((zs ++ (l.take j).flatMap (an size)) ++ an size (l.getD j 0) = zs ++ (l.take (j + 1)).flatMap (an size)) := Lib.hid (by
    rw [List.take_add_one, List.getElem?_eq_getElem hlt, List.flatMap_append, List.append_assoc]
    simp [List.getD, List.getElem?_eq_getElem hlt])
   obtain ⟨aa, cc, rfl, hB1, hN1⟩ := hR
   have hR : ug wr (.slice aa (zs ++ (l.take j).flatMap (an size)).length cc) (zs ++ (l.take j).flatMap (an size)) := ⟨aa, cc, rfl, hB1, hN1⟩
   generalize hLL : (zs ++ (l.take j).flatMap (an size)).length = LL at *
   have h3 := xB size (l.getD j 0) wr HS8.out (by omega) hR
   rw [HE.out] at h3
   have HP := Lib.hid h3
   clear h3 hB1 hN1
   clear HE hlen hR hc
   generalize l.getD j 0 = x at *
   have hjI : (j : Int) < l.length := by omega
   go_wp2_with (go_at_call 38; refine HP.out.mono ?_; rintro e w' ⟨v', rfl, ho, hb2⟩)
   go_roundw
   case rel => exact ⟨j + 1, by omega, by go_num, ho, hb.trans (hb2.mono hb.size)⟩
   case measure => simp [intOf]; omega
  ·obtain rfl : j = l.length := by omega
   rw [List.take_length] at hR
   have HR2 := Lib.hid hR
   clear hR
   go_wp2
   go_ret
   exact ⟨_, rfl, HR2.out, hb⟩
theorem wD {v : Value} {zs : List Int} (w : World) (hl : zs.length ≤ 50000) (h : ug w v zs) (hby : aH zs) :
  Calls Tryz.prog 14 #[v] w fun e w' => ∃ v', e = .returned v' ∧ ug w' v' (ep zs) ∧ Below w.heap.size w w' := by
 have HC : Hid (Calls Tryz.prog 39 #[.int .u16 65535, v] w fun e w' => e = .returned (.int .u16 (fq zs)) ∧ w = w') := Lib.hid (by
  obtain ⟨a, c, rfl, h1, _⟩ := h
  have v0 : V 65535#16 = 65535 := by unfold V; rfl
  have h2 := tf 65535#16 a zs.length c zs w rfl (by omega) h1 fun i hi => by
   have h3 := hby (zs.getD i 0) (by rw [List.getD_eq_getElem?_getD, List.getElem?_eq_getElem hi]; exact List.getElem_mem hi)
   generalize zs.getD i 0 = x at *
   unfold db; simp only; omega
  rw [v0] at h2
  exact h2)
 have HP : Hid (Calls Tryz.prog 38 #[v, .int .i64 2, .int .i64 (fq zs)] w fun e w' => ∃ v', e = .returned v' ∧ ug w' v' (ep zs) ∧ Below w.heap.size w w') := Lib.hid (xB 2 (fq zs) w (by omega) (by omega) h)
 have hbd := mv zs
 clear h hby
 generalize ep zs = S at *
 generalize fq zs = s at *
 go_enter Tryz.func14, Tryz.ntmps14
 go_wp2_with (first | (go_at_call 39; refine HC.out.mono ?_; rintro e w' ⟨rfl, rfl⟩) | (go_at_call 38; refine HP.out.mono ?_; rintro e w' ⟨v', rfl, ho, hb2⟩))
 go_ret
 exact ⟨_, rfl, ho, hb2⟩
theorem go (a a' : Option Addr) (cap cap' : Nat) (zs : List Int) (w : World) (hl : zs.length ≤ 100000) (h1 : bj w a zs) (h2 : bj w a' zs) :
  Calls Tryz.prog 19 #[.slice a zs.length cap, .slice a' zs.length cap'] w fun e w' => e = .returned (.bool true) ∧ Below w.heap.size w w' := by
 have H1 := Lib.hid h1
 have H2 := Lib.hid h2
 clear h1 h2
 go_enter Tryz.func19, Tryz.ntmps19
 go_wp2
 go_loopw [5] (fun i wr => ∃ j : Nat, j ≤ zs.length ∧ i = .int .i64 j ∧ Below w.heap.size w wr) (fun i _ => zs.length - (intOf i).toNat)
 case atStart => exact ⟨0, Nat.zero_le _, rfl, Below.refl _ _⟩
 case round =>
  obtain ⟨j, hj, rfl, hb⟩ := hrel
  haveI : LeSize w.heap.size wr := ⟨hb.size⟩
  by_cases hlt : j < zs.length
  ·obtain ⟨b, off, rfl, hbw, hc⟩ := H1.out.cell (by omega)
   obtain ⟨b', off', rfl, hbw', hc'⟩ := H2.out.cell (by omega)
   have c1 : wr.cell? ⟨b, off + j, none⟩ = some (.int .u8 (zs.getD j 0)) := by rw [hb.cell (p := ⟨b, off + j, none⟩) hbw]; exact hc j hlt
   have c2 : wr.cell? ⟨b', off' + j, none⟩ = some (.int .u8 (zs.getD j 0)) := by rw [hb.cell (p := ⟨b', off' + j, none⟩) hbw']; exact hc' j hlt
   haveI : LeSize (b + 1) wr := ⟨Nat.le_trans hbw hb.size⟩
   haveI : LeSize (b' + 1) wr := ⟨Nat.le_trans hbw' hb.size⟩
   generalize zs.getD j 0 = x at *
   have hxx : (x != x) = false := by simp
   have hjI : (j : Int) < zs.length := by omega
   go_wp2
   (refine ai (by kernel_rfl) (by kernel_rfl) ?_; (repeat (first | go_big_quiet_step ((first | fail)))); refine wpQuiet_nil ?_; rintro _ ⟨u, rfl⟩)
   go_wp2
   go_roundw
   case rel => exact ⟨j + 1, by omega, by go_num, by exact yd⟩
   case measure => simp [intOf]; omega
  ·obtain rfl : j = zs.length := by omega
   go_wp2
   go_ret
   exact ⟨rfl, hb⟩
end
end Go.Proofs.YtodgfjgljcinlaaGreat
