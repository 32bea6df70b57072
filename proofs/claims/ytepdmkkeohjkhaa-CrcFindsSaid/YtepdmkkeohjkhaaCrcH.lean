/- The law CrcFinds: the walks, and the given statement. -/
import Derived.Test.YtepdmkkeohjkhaaCrcG
import Derived.Test.YtepdmkkeohjkhaaPlace
namespace Go.Proofs.Ytepdmkkeohjkhaa
open Go.ChangeShapes Go.WideShapes Go.ChangeAt Go.RowKit
set_option linter.unusedVariables false

/-- The parity of a word's bits. -/
def par (c : W16) : Bool := c[0] ^^ (c[1] ^^ (c[2] ^^ (c[3] ^^ (c[4] ^^ (c[5] ^^ (c[6] ^^ (c[7] ^^ (c[8] ^^ (c[9] ^^ (c[10] ^^ (c[11] ^^ (c[12] ^^ (c[13] ^^ (c[14] ^^ c[15]))))))))))))))
theorem x4 {a b A B R : Bool} (h : R = (A ^^ B)) : ((a ^^ b) ^^ R) = ((a ^^ A) ^^ (b ^^ B)) := by
  subst h; cases a <;> cases b <;> cases A <;> cases B <;> rfl
theorem par_xor (a b : W16) : par (a ^^^ b) = (par a ^^ par b) := by
  simp only [par, BitVec.getElem_xor]
  iterate 15 refine x4 ?_
  rfl
theorem par_shl (c : W16) : par (c <<< 1) = (par c ^^ c[15]) := by
  simp only [par, BitVec.getElem_shiftLeft]
  simp
theorem par_stp (c : W16) : par (stp c) = par c := by
  have hm : c.msb = c[15] := by rw [BitVec.msb_eq_getLsbD_last]; rfl
  unfold stp
  rw [hm]
  cases h : c[15]
  · simp [par_shl, h]
  · have : par 4129#16 = true := by decide
    simp [par_xor, par_shl, h, this]
theorem par_stps (n : Nat) (c : W16) : par (stps n c) = par c := by
  induction n generalizing c with
  | zero => rfl
  | succ n ih => show par (stps n (stp c)) = _; rw [ih, par_stp]
theorem par_crcB (c : W16) (x : Int) : par (crcB c x) = (par c ^^ par (byT x)) := by rw [crcB_eq, par_stps, par_xor]
/-- The parity of a text's bits. -/
def parL (l : List Int) : Bool := l.foldr (fun x b => par (byT x) ^^ b) false
theorem par_crcL (l : List Int) (c : W16) : par (crcL c l) = (par c ^^ parL l) := by
  induction l generalizing c with
  | nil => simp [crcL, parL]
  | cons x l ih => show par (crcL (crcB c x) l) = (par c ^^ (par (byT x) ^^ parL l)); rw [ih, par_crcB, Bool.xor_assoc]
theorem parL_set (l : List Int) (i : Nat) (h : i < l.length) (y : Int) (hy : par (byT y) = !par (byT (l.getD i 0))) : parL (l.set i y) = !parL l := by
  induction l generalizing i with
  | nil => simp at h
  | cons x l ih =>
    cases i with
    | zero => simp at hy; show (par (byT y) ^^ parL l) = !(par (byT x) ^^ parL l); rw [hy]; simp
    | succ i =>
      show (par (byT x) ^^ parL (l.set i y)) = !(par (byT x) ^^ parL l)
      rw [ih i (by simpa using h) (by simpa using hy)]; simp
theorem flip_ok {x : Int} (h : InKind .u8 x) (m : Nat) (hm : m < 8) : par (byT (bits .xor .u8 x ((2 ^ m : Nat) : Int))) = !par (byT x) ∧ InKind .u8 (bits .xor .u8 x ((2 ^ m : Nat) : Int)) := by
  obtain ⟨a, rfl⟩ := byte_bv h
  have e : ((2 ^ m : Nat) : Int) = ((BitVec.ofNat 8 (2 ^ m)).toNat : Int) := by
    match m, hm with
    | 0, _ | 1, _ | 2, _ | 3, _ | 4, _ | 5, _ | 6, _ | 7, _ => rfl
  have p : par (byT ((BitVec.ofNat 8 (2 ^ m)).toNat : Int)) = true := by
    match m, hm with
    | 0, _ | 1, _ | 2, _ | 3, _ | 4, _ | 5, _ | 6, _ | 7, _ => decide
  rw [e, u8_xor, byT_xor, par_xor, p]
  refine ⟨by simp, ?_⟩
  have := (a ^^^ BitVec.ofNat 8 (2 ^ m)).isLt
  exact ⟨by omega, by show _ ≤ (255 : Int); omega⟩

set_option maxHeartbeats 400000 in
theorem same_any (a1 a2 : Option Addr) (n p1 p2 : Nat) (zs ys : List Int) (w : World) (h1 : zs.length = n) (h2 : ys.length = n) (hm : n ≤ 9223372036854775807) (hi1 : Bytes w a1 zs) (hi2 : Bytes w a2 ys) (hne : zs ≠ ys) :
    Calls Try.prog 13 #[.slice a1 n p1, .slice a2 n p2] w fun e w' => e = .returned (.bool false) ∧ Below w.heap.size w w' := by
  have HI1 := Lib.hid hi1
  have HI2 := Lib.hid hi2
  clear hi1 hi2
  go_enter Try.func13, Try.ntmps13
  go_wp2
  go_loopw [5] (fun i wr => ∃ k : Nat, k ≤ n ∧ i = .int .i64 k ∧ Below w.heap.size w wr ∧ ∀ j, j < k → zs.getD j 0 = ys.getD j 0) (fun i _ => n - (intOf i).toNat)
  case atStart => exact ⟨0, by omega, rfl, by (repeat' (first | (with_reducible exact Below.refl _ _) | (with_reducible assumption) | (with_reducible refine Below.setCell ?_ ?_ _) | (with_reducible refine Below.alloc ?_ ?_ _) | (with_reducible refine Below.drew ?_) | (with_reducible refine Up.base _ ?_ ?_) | (with_reducible exact LeSize.out) | exact LeSize.out | exact Nat.le_add_right_of_le LeSize.out | exact Nat.le_add_right_of_le (Nat.le_add_right_of_le LeSize.out) | (with_reducible exact Nat.le_refl _) | (simp; done) | (simp; omega))), fun j hj => absurd hj (by omega)⟩
  case round =>
    obtain ⟨k, hk, rfl, hb, heq⟩ := hrel
    have i0 : LeSize w.heap.size wr := ⟨hb.size⟩
    have HE := Lib.hid heq
    clear heq
    by_cases hlt : k < n
    · obtain ⟨b1, off1, rfl, hbs1, hc1⟩ := HI1.out.cell (by omega)
      obtain ⟨b2, off2, rfl, hbs2, hc2⟩ := HI2.out.cell (by omega)
      have d1 : wr.cell? ⟨b1, off1 + k, none⟩ = some (.int .u8 (zs.getD k 0)) := by rw [hb.cell (p := ⟨b1, off1 + k, none⟩) (by simpa using hbs1)]; exact hc1 k (by omega)
      have d2 : wr.cell? ⟨b2, off2 + k, none⟩ = some (.int .u8 (ys.getD k 0)) := by rw [hb.cell (p := ⟨b2, off2 + k, none⟩) (by simpa using hbs2)]; exact hc2 k (by omega)
      clear hc1 hc2
      generalize hv1 : zs.getD k 0 = v1 at *
      generalize hv2 : ys.getD k 0 = v2 at *
      have HV := Lib.hid (And.intro hv1 hv2)
      clear hv1 hv2
      have j_d1 := HasCell.of d1
      have j_d2 := HasCell.of d2
      have ib1 : LeSize (b1 + 1) wr := ⟨Nat.le_trans hbs1 hb.size⟩
      have ib2 : LeSize (b2 + 1) wr := ⟨Nat.le_trans hbs2 hb.size⟩
      by_cases hv : v1 = v2
      · subst hv
        go_wp2
        (refine wp_region_up (by kernel_rfl) (by kernel_rfl) ?_; (repeat (go_big_quiet_step ((first | fail)))); refine wpQuiet_nil ?_; rintro _ ⟨u, rfl⟩)
        go_wp2
        go_roundw
        case rel =>
          refine ⟨k + 1, by omega, by go_num, by (repeat' (first | (with_reducible exact Below.refl _ _) | (with_reducible assumption) | (with_reducible refine Below.setCell ?_ ?_ _) | (with_reducible refine Below.alloc ?_ ?_ _) | (with_reducible refine Below.drew ?_) | (with_reducible refine Up.base _ ?_ ?_) | (with_reducible exact LeSize.out) | exact LeSize.out | exact Nat.le_add_right_of_le LeSize.out | exact Nat.le_add_right_of_le (Nat.le_add_right_of_le LeSize.out) | (with_reducible exact Nat.le_refl _) | (simp; done) | (simp; omega))), fun j hj => ?_⟩
          by_cases hjk : j = k
          · subst hjk; rw [HV.out.1, HV.out.2]
          · exact HE.out j (by omega)
        case measure => simp [intOf]; omega
      · have hvb : (v1 != v2) = true := by simpa using hv
        go_wp2
        (refine wp_region_up (by kernel_rfl) (by kernel_rfl) ?_; (repeat (go_big_quiet_step ((first | fail)))); refine wpQuiet_nil ?_; rintro _ ⟨u, rfl⟩)
        go_wp2
        go_ret
        exact ⟨rfl, by (repeat' (first | (with_reducible exact Below.refl _ _) | (with_reducible assumption) | (with_reducible refine Below.setCell ?_ ?_ _) | (with_reducible refine Below.alloc ?_ ?_ _) | (with_reducible refine Below.drew ?_) | (with_reducible refine Up.base _ ?_ ?_) | (with_reducible exact LeSize.out) | exact LeSize.out | exact Nat.le_add_right_of_le LeSize.out | exact Nat.le_add_right_of_le (Nat.le_add_right_of_le LeSize.out) | (with_reducible exact Nat.le_refl _) | (simp; done) | (simp; omega)))⟩
    · exfalso
      apply hne
      apply List.ext_getElem (by omega)
      intro j hj1 hj2
      have := HE.out j (by omega)
      simpa [List.getD, hj1, hj2] using this

/-- A row of its own as bytes: which block it is. -/
theorem own_block {w : World} {base : Nat} {e : TypeId} {v : Value} {zs : List Int} {n : Nat} (h0 : n ≠ 0) (h : w.ownsRow base e 1 v n (zs.map (Value.int .u8))) :
    ∃ g cap, v = .slice (some ⟨g, 0, none⟩) n cap ∧ base ≤ g ∧ g < w.heap.size ∧ (∀ i, i < n → w.cell? ⟨g, i, none⟩ = some (.int .u8 (zs.getD i 0))) ∧ ∀ i, w.frozen? ⟨g, i, none⟩ = false := by
  obtain ⟨hl, h⟩ := h
  have hn : zs.length = n := by simpa using hl
  rcases h with ⟨rfl, rfl⟩ | ⟨g, cap, cur, rfl, hbg, hg, hc, _, hs, ht⟩
  · exact absurd rfl h0
  · refine ⟨g, cap, rfl, hbg, ?_, fun i hi => ?_, fun i => frozen_of_row _ _ _ _ _ hg⟩
    · rcases Nat.lt_or_ge g w.heap.size with h | h
      · exact h
      · rw [Array.getElem?_eq_none h] at hg; cases hg
    · have hx : cur[i]? = some (.int .u8 (zs.getD i 0)) := by
        have this : (cur.toList.take (n * 1))[i]? = (zs.map (Value.int .u8))[i]? := by rw [ht]
        rw [List.getElem?_take, if_pos (by omega)] at this
        rw [← Array.getElem?_toList, this]
        simp [List.getD, hn, hi]
      simp only [World.cell?, hg]
      exact hx
set_option maxHeartbeats 2000000 in
theorem crcFinds_walk (a : Option Addr) (cap : Nat) (zs : List Int) (p q r : Int) (w : World) (hl : zs.length ≤ cap ∧ cap ≤ 9223372036854775807) (hh : Hdr w a cap) (hi : Bytes w a zs) (hz : ∀ i, i < zs.length → InKind .u8 (zs.getD i 0))
    (hp : InKind .i64 p) (hq : InKind .i64 q) (hr : InKind .i64 r) :
    Calls Try.prog 5 #[.slice a zs.length cap, .int .i64 p, .int .i64 q, .int .i64 r] w fun e w' => e = .returned (.bool true) ∧ Below w.heap.size w w' := by
  obtain ⟨i0, hinfo, hz0, hz1, hz2⟩ := info_parts infoBy
  have HI := Lib.hid hi
  have HZ := Lib.hid hz
  clear hi hz
  by_cases h0 : zs.length = 0
  · have hnil : zs = [] := List.eq_nil_of_length_eq_zero h0
    subst hnil
    go_enter Try.func5, Try.ntmps5
    go_wp2_with (go_at_call 8; refine (Up.run (awake_any _)).mono ?_; rintro e w' ⟨rfl, u, rfl⟩)
    go_ret
    exact ⟨rfl, by (repeat' (first | (with_reducible exact Below.refl _ _) | (with_reducible assumption) | (with_reducible refine Below.setCell ?_ ?_ _) | (with_reducible refine Below.alloc ?_ ?_ _) | (with_reducible refine Below.drew ?_) | (with_reducible refine Up.base _ ?_ ?_) | (with_reducible exact LeSize.out) | exact LeSize.out | exact Nat.le_add_right_of_le LeSize.out | exact Nat.le_add_right_of_le (Nat.le_add_right_of_le LeSize.out) | (with_reducible exact Nat.le_refl _) | (simp; done) | (simp; omega)))⟩
  have h0b : ((zs.length : Int) == 0) = false := by simp; intro h; subst h; simp at h0
  by_cases h300 : (300 : Int) < zs.length
  · go_enter Try.func5, Try.ntmps5
    go_wp2_with (go_at_call 8; refine (Up.run (awake_any _)).mono ?_; rintro e w' ⟨rfl, u, rfl⟩)
    go_ret
    exact ⟨rfl, by (repeat' (first | (with_reducible exact Below.refl _ _) | (with_reducible assumption) | (with_reducible refine Below.setCell ?_ ?_ _) | (with_reducible refine Below.alloc ?_ ?_ _) | (with_reducible refine Below.drew ?_) | (with_reducible refine Up.base _ ?_ ?_) | (with_reducible exact LeSize.out) | exact LeSize.out | exact Nat.le_add_right_of_le LeSize.out | exact Nat.le_add_right_of_le (Nat.le_add_right_of_le LeSize.out) | (with_reducible exact Nat.le_refl _) | (simp; done) | (simp; omega)))⟩
  rcases hh with ⟨rfl, rfl⟩ | ⟨b, off, rfl, hb⟩
  · exfalso; omega
  have hm : zs.length ≤ 9223372036854775807 := by omega
  have e1 : ∀ (j : Nat) (x : Value), (zs.map (Value.int .u8))[j]? = some x → w.cell? (Addr.add ⟨b, off, none⟩ j) = some x := by
    intro j x hj
    have hjl : j < zs.length := by
      rcases Nat.lt_or_ge j zs.length with h | h
      · exact h
      · rw [List.getElem?_eq_none (by simpa using h)] at hj; cases hj
    have hc := HI.out.cell (by omega)
    obtain ⟨b', off', he, _, hcc⟩ := hc
    cases he
    have := hcc j hjl
    rw [show (Addr.add ⟨b, off, none⟩ j) = ⟨b, off + j, none⟩ by unfold Addr.add; by_cases h0 : j = 0 <;> simp [h0], this, ← hj]
    simp [List.getD, hjl]
  have E1 := Lib.hid e1
  clear e1
  go_enter Try.func5, Try.ntmps5
  go_wp2_with (at_builtin; refine wpList_append_own _ rfl _ _ 23 rfl w.heap.size 5 i0 (.int .u8 0) 1 1 Try.underlying23 hinfo hz0 hz1 hz2 rfl (by decide) (.slice none 0 0) 0 [] rfl ⟨rfl, .inl ⟨rfl, rfl⟩⟩ ⟨b, off, none⟩ zs.length cap (zs.map (Value.int .u8)) rfl (by simp) (by first | exact E1.out | (intro j x hj; exact E1.out j x hj)) (by intro x hx; obtain ⟨y, _, rfl⟩ := List.mem_map.1 hx; rfl) (by unfold maxLen; omega) (by omega) (by first | exact Nat.le_refl _ | simp) ?_)
  intro v1 w1 hown hgrow _
  have hb1 : Below w.heap.size w w1 := (Below.refl _ _).grown hgrow (Nat.le_refl _) (fun k hk => by simp [Value.ownBlock] at hk)
  have hs1 := hb1.size
  obtain ⟨g, capg, rfl, hbg, hgs, hgc, hgf⟩ := own_block (by omega) (by simpa using hown)
  have GC := Lib.hid hgc
  have GF := Lib.hid hgf
  clear hown hgrow hgc hgf hinfo hz0 hz1 hz2
  generalize hN : zs.length = n at *
  go_wp2
  have hcells : (w1.alloc (Obj.cells #[Value.int IntKind.i64 p, Value.int IntKind.i64 q, Value.int IntKind.i64 r] 3)).cell? ⟨w1.heap.size, 0, none⟩ = some (.int .i64 p) ∧ (w1.alloc (Obj.cells #[Value.int IntKind.i64 p, Value.int IntKind.i64 q, Value.int IntKind.i64 r] 3)).cell? ⟨w1.heap.size, 1, none⟩ = some (.int .i64 q) ∧ (w1.alloc (Obj.cells #[Value.int IntKind.i64 p, Value.int IntKind.i64 q, Value.int IntKind.i64 r] 3)).cell? ⟨w1.heap.size, 2, none⟩ = some (.int .i64 r) := by
    refine ⟨?_, ?_, ?_⟩ <;> rw [World.cell?_alloc_at _ _ _ _ rfl] <;> rfl
  have hbel : Below w.heap.size w (w1.alloc (Obj.cells #[Value.int IntKind.i64 p, Value.int IntKind.i64 q, Value.int IntKind.i64 r] 3)) := hb1.alloc hs1 _
  have hgc : ∀ j, j < n → (w1.alloc (Obj.cells #[Value.int IntKind.i64 p, Value.int IntKind.i64 q, Value.int IntKind.i64 r] 3)).cell? ⟨g, j, none⟩ = some (.int .u8 (zs.getD j 0)) := fun j hj => by
    rw [World.cell?_alloc_past _ _ _ hgs]; exact GC.out j hj
  have hgf : ∀ j, (w1.alloc (Obj.cells #[Value.int IntKind.i64 p, Value.int IntKind.i64 q, Value.int IntKind.i64 r] 3)).frozen? ⟨g, j, none⟩ = false := fun j => by
    rw [World.frozen?_alloc_past _ _ _ hgs]; exact GF.out j
  have hle : LeSize (w1.heap.size + 1) (w1.alloc (Obj.cells #[Value.int IntKind.i64 p, Value.int IntKind.i64 q, Value.int IntKind.i64 r] 3)) := inferInstance
  generalize (w1.alloc (Obj.cells #[Value.int IntKind.i64 p, Value.int IntKind.i64 q, Value.int IntKind.i64 r] 3)) = w2 at *
  generalize hB : w1.heap.size = B at *
  clear GC GF
  go_loopw [29] (fun i wr => ∃ (k : Nat) (zx : List Int), k ≤ 3 ∧ i = .int .i64 k ∧ zx.length = n ∧ Below w.heap.size w wr ∧ LeSize (B + 1) wr ∧ wr.cell? ⟨B, 0, none⟩ = some (.int .i64 p) ∧ wr.cell? ⟨B, 1, none⟩ = some (.int .i64 q) ∧ wr.cell? ⟨B, 2, none⟩ = some (.int .i64 r) ∧
      (∀ j, j < n → wr.cell? ⟨g, j, none⟩ = some (.int .u8 (zx.getD j 0))) ∧ (∀ j, wr.frozen? ⟨g, j, none⟩ = false) ∧ (∀ j, j < zx.length → InKind .u8 (zx.getD j 0)) ∧ parL zx = (parL zs ^^ decide (k % 2 = 1))) (fun i _ => 3 - (intOf i).toNat)
  case atStart => exact ⟨0, zs, by omega, rfl, hN, hbel, hle, hcells.1, hcells.2.1, hcells.2.2, hgc, hgf, by rw [hN]; exact HZ.out, by simp⟩
  case round =>
    obtain ⟨k, zx, hk, rfl, hlx, hb, i1, f0, f1, f2, hx, hf, hzx, hpar⟩ := hrel
    have i0 : LeSize w.heap.size wr := ⟨hb.size⟩
    have HX := Lib.hid hx
    have HF := Lib.hid hf
    have HZX := Lib.hid hzx
    have HP := Lib.hid hpar
    have HN := Lib.hid hN
    have HL := Lib.hid hlx
    clear hx hf hzx hpar hcells hgc hgf hbel hle hN hlx
    by_cases hlt : k < 3
    · obtain ⟨v, dv⟩ : ∃ v : Int, wr.cell? ⟨B, k, none⟩ = some (.int .i64 v) := by
        match k, hlt with
        | 0, _ => exact ⟨_, f0⟩
        | 1, _ => exact ⟨_, f1⟩
        | 2, _ => exact ⟨_, f2⟩
      have F := Lib.hid (And.intro f0 (And.intro f1 f2))
      clear f0 f1 f2
      go_wp2_with fail
      refine (place_any _ _ _ (by omega) (by omega)).mono ?_
      rintro e w' ⟨rfl, rfl⟩
      have m0 : 0 ≤ v % (8 * (n : Int)) := Int.emod_nonneg _ (by omega)
      have m1 : v % (8 * (n : Int)) < 8 * (n : Int) := Int.emod_lt_of_pos _ (by omega)
      generalize v % (8 * (n : Int)) = m at *
      obtain ⟨mn, rfl⟩ := Int.eq_ofNat_of_zero_le m0
      have q1 : ((mn : Int) / 8) = ((mn / 8 : Nat) : Int) := by omega
      have q2 : ((mn : Int) % 8) = ((mn % 8 : Nat) : Int) := by omega
      have q3 : (mn : Int).tdiv 8 = ((mn / 8 : Nat) : Int) := by rw [Int.tdiv_eq_ediv_of_nonneg (by omega)]; omega
      have q4 : (mn : Int).tmod 8 = ((mn % 8 : Nat) : Int) := by rw [Int.tmod_eq_emod_of_nonneg (by omega)]; omega
      have ld : mn / 8 < n := by omega
      have le : mn % 8 < 8 := Nat.mod_lt _ (by omega)
      generalize mn / 8 = d at *
      generalize mn % 8 = e at *
      have dx : wr.cell? ⟨g, d, none⟩ = some (.int .u8 (zx.getD d 0)) := HX.out d ld
      have fx : wr.frozen? ⟨g, d, none⟩ = false := HF.out d
      generalize hy : zx.getD d 0 = y at *
      have HY := Lib.hid hy
      clear hy
      go_wp2
      go_roundw
      case rel =>
        have hn : zx.length = n := HL.out
        have hey : zx.getD d 0 = y := HY.out
        have hIn : InKind .u8 y := by rw [← hey]; exact HZX.out d (by omega)
        have p8 : ((2 : Int) ^ e % 256) = ((2 ^ e : Nat) : Int) := by
          match e, le with
          | 0, _ | 1, _ | 2, _ | 3, _ | 4, _ | 5, _ | 6, _ | 7, _ => rfl
        rw [p8]
        obtain ⟨fo1, fo2⟩ := flip_ok hIn e le
        generalize bits .xor .u8 y ((2 ^ e : Nat) : Int) = y2 at *
        have hgB : ¬ g = B := by omega
        have ho : ∀ j, (wr.setCell ⟨g, d, none⟩ (.int .u8 y2)).cell? ⟨B, j, none⟩ = wr.cell? ⟨B, j, none⟩ := fun j => World.cell?_setCell_other _ _ _ _ (by intro h; injection h with h1; exact hgB h1)
        refine ⟨k + 1, zx.set d y2, by omega, by go_num, by simp [hn], by (repeat' (first | (with_reducible exact Below.refl _ _) | (with_reducible assumption) | (with_reducible refine Below.setCell ?_ ?_ _) | (with_reducible refine Below.alloc ?_ ?_ _) | (with_reducible refine Below.drew ?_) | (with_reducible refine Up.base _ ?_ ?_) | (with_reducible exact LeSize.out) | exact LeSize.out | exact Nat.le_add_right_of_le LeSize.out | exact Nat.le_add_right_of_le (Nat.le_add_right_of_le LeSize.out) | (with_reducible exact Nat.le_refl _) | (simp; done) | (simp; omega))), inferInstance, by rw [ho]; exact F.out.1, by rw [ho]; exact F.out.2.1, by rw [ho]; exact F.out.2.2, fun j hj => ?_, fun j => ?_, fun j hj => ?_, ?_⟩
        · by_cases hjd : j = d
          · subst hjd
            rw [World.cell?_setCell_same _ _ _ dx]
            simp [List.getD, hn, hj]
          · rw [World.cell?_setCell_other _ _ _ _ (by first | (simp; done) | (simp; omega)), HX.out j hj]
            simp [List.getD, Ne.symm hjd]
        · rw [World.frozen?_setCell]; exact HF.out j
        · have hj' : j < zx.length := by simpa using hj
          by_cases hjd : j = d
          · subst hjd
            have : (zx.set j y2).getD j 0 = y2 := by simp [List.getD, hj']
            rw [this]; exact fo2
          · have : (zx.set d y2).getD j 0 = zx.getD j 0 := by simp [List.getD, Ne.symm hjd]
            rw [this]; exact HZX.out j hj'
        · rw [parL_set zx d (by omega) y2 (by rw [hey]; exact fo1), HP.out]
          have : decide ((k + 1) % 2 = 1) = !decide (k % 2 = 1) := by
            by_cases h : k % 2 = 1
            · have h2 : ¬ (k + 1) % 2 = 1 := by omega
              simp [h, h2]
            · have h2 : (k + 1) % 2 = 1 := by omega
              simp [h, h2]
          rw [this]; cases parL zs <;> cases decide (k % 2 = 1) <;> rfl
      case measure => simp [intOf]; omega
    · have hk3 : k = 3 := by omega
      subst hk3
      have hn : zx.length = n := HL.out
      have hzn : zs.length = n := HN.out
      have hpp : parL zx = !parL zs := by rw [HP.out]; simp
      have bx : Bytes wr (some ⟨g, 0, none⟩) zx := .inr ⟨_, _, rfl, World.block_lt_of_cell? _ _ (HX.out 0 (by omega)), fun i hi => by rw [Nat.zero_add]; exact HX.out i (by omega)⟩
      have bz : Bytes wr (some ⟨b, off, none⟩) zs := Row1.below HI.out hb (Nat.le_refl _)
      have hne : zx ≠ zs := fun h => by rw [h] at hpp; cases h2 : parL zs <;> rw [h2] at hpp <;> cases hpp
      have hcc : (V (crcL 65535#16 zx) == V (crcL 65535#16 zs)) = false := by
        have h1 := par_crcL zx 65535#16
        have h2 := par_crcL zs 65535#16
        have : crcL 65535#16 zx ≠ crcL 65535#16 zs := fun h => by
          rw [h, h2, hpp] at h1
          cases par 65535#16 <;> cases h3 : parL zs <;> rw [h3] at h1 <;> cases h1
        have h4 : V (crcL 65535#16 zx) ≠ V (crcL 65535#16 zs) := fun h => this (BitVec.eq_of_toNat_eq (by unfold V at h; omega))
        simpa using h4
      go_wp2_with fail
      refine (Up.run (of_any _ _ _ zx _ hn hm bx HZX.out)).mono ?_
      rintro e w' ⟨rfl, u1, rfl⟩
      go_wp2_with fail
      refine (Up.run (of_any _ _ _ zs _ hzn hm (Row1.up u1 bz) (by rw [hzn]; exact HZ.out))).mono ?_
      rintro e w' ⟨rfl, u2, rfl⟩
      generalize V (crcL 65535#16 zx) = c1 at *
      generalize V (crcL 65535#16 zs) = c2 at *
      go_wp2_with fail
      refine (Up.run (same_any _ _ _ _ _ zx zs _ hn hzn hm (Row1.up u2 (Row1.up u1 bx)) (Row1.up u2 (Row1.up u1 bz)) hne)).mono ?_
      rintro e w' ⟨rfl, u3, rfl⟩
      go_wp2_with (go_at_call 8; refine (Up.run (awake_any _)).mono ?_; rintro e w' ⟨rfl, u, rfl⟩)
      go_ret
      exact ⟨rfl, by (repeat' (first | (with_reducible exact Below.refl _ _) | (with_reducible assumption) | (with_reducible refine Below.setCell ?_ ?_ _) | (with_reducible refine Below.alloc ?_ ?_ _) | (with_reducible refine Below.drew ?_) | (with_reducible refine Up.base _ ?_ ?_) | (with_reducible exact LeSize.out) | exact LeSize.out | exact Nat.le_add_right_of_le LeSize.out | exact Nat.le_add_right_of_le (Nat.le_add_right_of_le LeSize.out) | (with_reducible exact Nat.le_refl _) | (simp; done) | (simp; omega)))⟩

set_option maxRecDepth 100000 in
theorem CrcFinds_lifted (os : Os) (started : os.Started) (H : Type) (enc : TypeId × Value → H) :
    ReturnsInHanded {} Try.checked os 5 .any (Rows.crcFindsSpec.pre6 enc Try.prog Try.f5 Rows.crcFindsRow.domain false) (Rows.crcFindsSpec.post enc Try.prog Try.f5 false true false false) := by
  refine returnsInHanded_of_change (C := Try.checked) own started (by kernel_rfl) Try.func5
    (ChangeSpec.witness6 (enc := enc) (C := Try.checked) false ⟨#[], #[.slice none 0 0, .int .i64 0, .int .i64 0, .int .i64 0], []⟩ 8 (by kernel_rfl) (by kernel_rfl) (by kernel_rfl) (by kernel_rfl)) ?_
  intro W base args ds gs before hval0 hW hcnd _
  have hval : ∀ (j : Nat) t v, Try.f5.params[j]? = some t → args[j]? = some v → Value.okWide Try.prog W .any base t v := hval0
  have hW' := hW
  obtain ⟨p, q, hA0, hV, rfl, hfz, hnd⟩ := hW
  have hA : DataW.TrodAll enc Try.prog W 0 (fun _ => true) true Try.f5.params.toList args.toList ds p := hA0
  rw [Try.params5] at hA hval
  obtain ⟨v0, vs0, d0, ds0, p0, q0, hargs, rfl, rfl, h0, r0⟩ := trodAll_cons hA
  obtain ⟨v1, vs1, d1, ds1, p1, q1, rfl, rfl, rfl, h1, r1⟩ := trodAll_cons r0
  obtain ⟨v2, vs2, d2, ds2, p2, q2, rfl, rfl, rfl, h2, r2⟩ := trodAll_cons r1
  obtain ⟨v3, vs3, d3, ds3, p3, q3, rfl, rfl, rfl, h3, r3⟩ := trodAll_cons r2
  obtain ⟨rfl, rfl, rfl⟩ := trodAll_nil r3
  obtain rfl : args = #[v0, v1, v2, v3] := by cases args; simp_all
  obtain ⟨rfl, rfl⟩ := trodVars_none hV
  have k0 := h0
  have lt0 : ∀ x ∈ p0, x.block < W.heap.size := by obtain ⟨m, hm⟩ := k0; exact DataW.trod_lt m _ _ _ hm
  have k1 := h1
  have lt1 : ∀ x ∈ p1, x.block < W.heap.size := by obtain ⟨m, hm⟩ := k1; exact DataW.trod_lt m _ _ _ hm
  have k2 := h2
  have lt2 : ∀ x ∈ p2, x.block < W.heap.size := by obtain ⟨m, hm⟩ := k2; exact DataW.trod_lt m _ _ _ hm
  have k3 := h3
  have lt3 : ∀ x ∈ p3, x.block < W.heap.size := by obtain ⟨m, hm⟩ := k3; exact DataW.trod_lt m _ _ _ hm
  obtain ⟨a0, cap0, z0, rfl, hl0, hm0, hh0, hr0, iz0⟩ := open_ints1 Try.underlying23 Try.underlying5 (by kernel_rfl) (hval 0 23 v0 rfl rfl) k0
  obtain ⟨a1, rfl, w1⟩ := open_int1 Try.underlying3 (hval 1 3 v1 rfl rfl)
  obtain ⟨a2, rfl, w2⟩ := open_int1 Try.underlying3 (hval 2 3 v2 rfl rfl)
  obtain ⟨a3, rfl, w3⟩ := open_int1 Try.underlying3 (hval 3 3 v3 rfl rfl)
  clear hA0 hval0
  refine (crcFinds_walk a0 cap0 z0 a1 a2 a3 W ⟨hl0, hm0⟩ hh0 hr0 iz0 w1 w2 w3).mono fun e W' ⟨he, bel⟩ => ?_
  subst he
  exact ⟨_, rfl, _, _, _, [], _, [], hW', trodAll_mk1 (shut_bool Try.underlying4 _), (trodAll_cons_mk (Below.trod laidOut (by kernel_rfl) (of_decide_eq_true (by kernel_rfl)) k0 bel lt0) (trodAll_cons_mk (Below.trod laidOut (by kernel_rfl) (of_decide_eq_true (by kernel_rfl)) k1 bel lt1) (trodAll_cons_mk (Below.trod laidOut (by kernel_rfl) (of_decide_eq_true (by kernel_rfl)) k2 bel lt2) (trodAll_cons_mk (Below.trod laidOut (by kernel_rfl) (of_decide_eq_true (by kernel_rfl)) k3 bel lt3) trodAll_mk0)))), rfl, bel.frame _, fun h => by cases h⟩

theorem CrcFinds_over : Rows.crcFindsRow.holds Try.pinned (OpenSpec.ofChange Rows.crcFindsSpec) :=
  OpenClaim.holds_of_wide 5 Try.f5 rfl rfl rfl rfl rfl rfl rfl ⟨rfl, rfl, rfl, rfl, rfl⟩ rfl rfl rfl rfl rfl (by kernel_rfl) Try.func5 (by kernel_rfl)
    (of_decide_eq_true (by kernel_rfl)) (by unfold Func.isWrapper; first | (rw [if_pos (by decide +kernel)]; kernel_rfl) | (rw [if_neg (by decide +kernel)]; exact ⟨rfl, rfl⟩))
    (fun os started H enc _ => CrcFinds_lifted os started H enc)

/-- The given statement. -/
theorem CrcFinds_holds : Rows.CrcFindsSaid := CrcFinds_over
#print axioms CrcFinds_holds
end Go.Proofs.Ytepdmkkeohjkhaa
