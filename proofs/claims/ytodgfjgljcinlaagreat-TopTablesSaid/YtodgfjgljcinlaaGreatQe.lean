/- Part Qe of the proof: EvA, EvB, EvC, EvD, EvE, EvF, EvG. -/
import Derived.Test.YtodgfjgljcinlaaGreatQb
import Derived.Test.YtodgfjgljcinlaaGreatQa
import Derived.Shelf.Abstract
import Derived.Laws.Externs
namespace Go.Proofs.YtodgfjgljcinlaaGreat
set_option maxHeartbeats 8000000
set_option maxRecDepth 100000
set_option linter.unusedVariables false
section
open Go.RowKit Go.Shelf
attribute [local go_sem] IsBlk.cell IsBlk.frozen
def cz {α : Type} (w : World) (g : Nat) (caps : Array Value) (arg : α → Value) (xs : List α) (f : α → Bool) : Prop :=
 ∀ x ∈ xs, ∀ W, Below w.heap.size w W → Calls Tryz.prog g (#[arg x] ++ caps) W fun e W' => e = .returned (.bool (f x)) ∧ Below W.heap.size W W'
theorem cz.below {α : Type} {w w' : World} {g : Nat} {caps : Array Value} {arg : α → Value} {xs : List α} {f : α → Bool} (h : cz w g caps arg xs f) (hb : Below w.heap.size w w') : cz w' g caps arg xs f :=
 fun x hx W hW => h x hx W (hb.trans (hW.mono hb.size))
theorem km {α : Type} [Inhabited α] {xs : List α} {k : Nat} (h : k < xs.length) (p : α → Bool) : (xs.take (k + 1)).any p = ((xs.take k).any p || p xs[k]) := by
 rw [List.take_succ_eq_append_getElem h, List.any_append]; simp
theorem cO {α : Type} (xs : List α) (f : α → Bool) : (!xs.any fun x => !f x) = xs.all f := by
 induction xs with
 | nil => rfl
 | cons x l ih => rw [List.any_cons, List.all_cons, ← ih]; cases f x <;> simp
def wa (x : Int) : Value := .int .i64 x
theorem uZ (x : Int) (g : Nat) (caps : Array Value) (B : Nat) (f : Bool) (W : World) (eg : Enters Tryz.prog g) [hB : HasCell W B 0] (hc0 : W.cell? ⟨B, 0, none⟩ = some (.func (.func g) #[] caps))
  (hc : ∀ W', Below W.heap.size W W' → Calls Tryz.prog g (#[.int .i64 x] ++ caps) W' fun e W'' => e = .returned (.bool f) ∧ Below W'.heap.size W' W'') :
  Calls Tryz.prog 212 #[.int .i64 x, .pointer (some ⟨B, 0, none⟩)] W fun e W' => e = .returned (.bool (!f)) ∧ Below W.heap.size W W' := by
 have HC := Lib.hid hc
 clear hc
 unfold Enters at eg
 go_enter Tryz.func212, Tryz.ntmps212
 go_wp2_with (refine (Up.run (HC.out _ (by exact yd))).mono ?_; rintro e w' ⟨rfl, u, rfl⟩)
 go_ret
 exact ⟨rfl, by exact yd⟩
theorem un (a : Option Addr) (cap : Nat) (zs : List Int) (g : Nat) (caps : Array Value) (p : Int → Bool) (w : World) (eg : Enters Tryz.prog g) (hm : zs.length ≤ 9223372036854775807) (hi : bQ w a zs) (hp : cz w g caps wa zs p) :
  Calls Tryz.prog 240 #[.slice a zs.length cap, .func (.func g) #[] caps] w fun e w' => ∃ r : Int, e = .returned (.int .i64 r) ∧ decide (0 ≤ r) = zs.any p ∧ Below w.heap.size w w' := by
 have HI := Lib.hid hi
 have HP := Lib.hid hp
 clear hi hp
 unfold Enters at eg
 go_enter Tryz.func240, Tryz.ntmps240
 go_wp2
 go_loopw [8] (fun i wr => ∃ k : Nat, k ≤ zs.length ∧ i = .int .i64 k ∧ Hid ((zs.take k).any p = false) ∧ Below w.heap.size w wr) (fun i _ => zs.length - (intOf i).toNat)
 case atStart => exact ⟨0, Nat.zero_le _, rfl, Lib.hid rfl, Below.refl _ _⟩
 case round =>
  obtain ⟨k, hk, rfl, hN, hb⟩ := hrel
  haveI : LeSize w.heap.size wr := ⟨hb.size⟩
  by_cases hlt : k < zs.length
  ·obtain ⟨b, off, rfl, hbw, hc⟩ := HI.out.cell (by omega)
   have hcell : wr.cell? ⟨b, off + k, none⟩ = some (.int .i64 (zs.getD k 0)) := by
    rw [hb.cell (p := ⟨b, off + k, none⟩) hbw]; exact hc k hlt
   have hx : zs.getD k 0 ∈ zs := by rw [List.getD_eq_getElem?_getD, List.getElem?_eq_getElem hlt]; exact List.getElem_mem _
   have HC : Hid (Calls Tryz.prog g (#[.int .i64 (zs.getD k 0)] ++ caps) wr fun e W' => e = .returned (.bool (p (zs.getD k 0))) ∧ ∃ u : Up wr, W' = u.w) := Lib.hid (Up.run (HP.out _ hx wr hb))
   have HS : Hid ((zs.take (k + 1)).any p = ((zs.take k).any p || p (zs.getD k 0))) := Lib.hid (by
    rw [km hlt, List.getD_eq_getElem?_getD, List.getElem?_eq_getElem hlt]; rfl)
   have HT : Hid (p (zs.getD k 0) = true → zs.any p = true) := Lib.hid fun h => List.any_eq_true.2 ⟨_, hx, h⟩
   clear hc hx
   have hkI : (k : Int) < zs.length := by omega
   generalize zs.getD k 0 = z at *
   cases hpz : p z
   ·rw [hpz] at HC
    go_wp2_with (refine HC.out.mono ?_; rintro e w' ⟨rfl, u, rfl⟩)
    go_roundw
    case rel => exact ⟨k + 1, by omega, by go_num, Lib.hid (by rw [HS.out, hN.out, hpz]; rfl), by exact yd⟩
    case measure => simp [intOf]; omega
   ·rw [hpz] at HC
    go_wp2_with (refine HC.out.mono ?_; rintro e w' ⟨rfl, u, rfl⟩)
    go_ret
    exact ⟨_, rfl, by rw [HT.out hpz]; simp, by exact yd⟩
  ·obtain rfl : k = zs.length := by omega
   have HE : Hid (zs.any p = false) := Lib.hid (by have := hN.out; rwa [List.take_length] at this)
   go_wp2
   go_ret
   exact ⟨_, rfl, by rw [HE.out]; rfl, by exact yd⟩
theorem ui (a : Option Addr) (cap : Nat) (zs : List Int) (g : Nat) (caps : Array Value) (p : Int → Bool) (w : World) (eg : Enters Tryz.prog g) (hm : zs.length ≤ 9223372036854775807) (hi : bQ w a zs) (hp : cz w g caps wa zs p) :
  Calls Tryz.prog 211 #[.slice a zs.length cap, .func (.func g) #[] caps] w fun e w' => e = .returned (.bool (zs.any p)) ∧ Below w.heap.size w w' := by
 have HC := Lib.hid (un a cap zs g caps p w eg hm hi hp)
 clear hi hp
 go_enter Tryz.func211, Tryz.ntmps211
 go_wp2_with (refine HC.out.mono ?_; rintro e w' ⟨r, rfl, hr, hb⟩)
 go_ret
 exact ⟨rfl, hb⟩
theorem pi (a : Option Addr) (cap : Nat) (zs : List Int) (most : Int) (g : Nat) (caps : Array Value) (f : Int → Bool) (w : World) (eg : Enters Tryz.prog g) (hm : zs.length ≤ 9223372036854775807) (hi : bQ w a zs) (hp : cz w g caps wa zs f) :
  Calls Tryz.prog 184 #[.slice a zs.length cap, .int .i64 most, .func (.func g) #[] caps] w fun e w' => e = .returned (.bool (decide ((zs.length : Int) ≤ most) && zs.all f)) ∧ Below w.heap.size w w' := by
 have HC : Hid (∀ W, W = w.alloc (.cells #[.func (.func g) #[] caps] 139) → Calls Tryz.prog 211 #[.slice a zs.length cap, .func (.func 212) #[] #[.pointer (some ⟨w.heap.size, 0, none⟩)]] W fun e w' => e = .returned (.bool (zs.any fun x => !f x)) ∧ Below W.heap.size W w') := Lib.hid fun W hW => by
  have bW : Below w.heap.size w W := by rw [hW]; exact (Below.refl _ _).alloc (Nat.le_refl _) _
  refine ui a cap zs _ _ _ W (enters_of Tryz.func212 (by kernel_rfl) rfl) hm (bk.below hi bW (Nat.le_refl _)) fun x hx W' hW' => ?_
  have iB : IsBlk W w.heap.size #[.func (.func g) #[] caps] 139 := by rw [hW]; infer_instance
  have hs : w.heap.size < W.heap.size := by rw [hW]; simp
  haveI iB' : IsBlk W' w.heap.size #[.func (.func g) #[] caps] 139 := ⟨(hW'.block _ hs).trans iB.out⟩
  have hc0 : W'.cell? ⟨w.heap.size, 0, none⟩ = some (.func (.func g) #[] caps) := by rw [IsBlk.cell]; rfl
  haveI := HasCell.of hc0
  exact uZ x g caps _ (f x) W' eg hc0 fun W2 hW2 => hp x hx W2 ((bW.trans (hW'.mono bW.size)).trans (hW2.mono (Nat.le_trans bW.size hW'.size)))
 have HA := Lib.hid (cO zs f)
 clear hi hp
 go_enter Tryz.func184, Tryz.ntmps184
 by_cases hl : (zs.length : Int) ≤ most
 ·go_wp2_with (refine (Up.run (HC.out _ rfl)).mono ?_; rintro e w' ⟨rfl, u, rfl⟩)
  go_ret
  exact ⟨aK (by rw [HA.out]; simp [hl]), by exact yd⟩
 ·go_wp2
  go_ret
  exact ⟨aK (by rw [show decide ((zs.length : Int) ≤ most) = false from decide_eq_false (by omega)]; rfl), by exact yd⟩
theorem mV (x most : Int) (B : Nat) (W : World) [hB : HasCell W B 0] (hc0 : W.cell? ⟨B, 0, none⟩ = some (.int .i64 most)) :
  Calls Tryz.prog 186 #[.int .i64 x, .pointer (some ⟨B, 0, none⟩)] W fun e W' => e = .returned (.bool (decide (0 ≤ x) && decide (x ≤ most))) ∧ Below W.heap.size W W' := by
 by_cases h1 : 0 ≤ x
 ·by_cases h2 : x ≤ most
  ·go_enter Tryz.func186, Tryz.ntmps186
   go_wp2
   go_ret
   exact ⟨aK (by simp [h1, h2]), by exact yd⟩
  ·go_enter Tryz.func186, Tryz.ntmps186
   go_wp2
   go_ret
   exact ⟨aK (by rw [show decide (x ≤ most) = false from decide_eq_false (by omega)]), by exact yd⟩
 ·go_enter Tryz.func186, Tryz.ntmps186
  go_wp2
  go_ret
  exact ⟨aK (by rw [show decide (0 ≤ x) = false from decide_eq_false (by omega)]; rfl), by exact yd⟩
theorem eY (most : Int) (a : Option Addr) (cap : Nat) (zs : List Int) (w : World) (hm : zs.length ≤ 1000000) (hi : bQ w a zs) :
  Calls Tryz.prog 133 #[.int .i64 most, .slice a zs.length cap] w fun e w' => e = .returned (.bool (bH most zs)) ∧ Below w.heap.size w w' := by
 have HC : Hid (∀ W, W = w.alloc (.cells #[.int .i64 most] 3) → Calls Tryz.prog 184 #[.slice a zs.length cap, .int .i64 zs.length, .func (.func 186) #[] #[.pointer (some ⟨w.heap.size, 0, none⟩)]] W fun e w' => e = .returned (.bool (bH most zs)) ∧ Below W.heap.size W w') := Lib.hid fun W hW => by
  have bW : Below w.heap.size w W := by rw [hW]; exact (Below.refl _ _).alloc (Nat.le_refl _) _
  have := pi a cap zs zs.length 186 #[.pointer (some ⟨w.heap.size, 0, none⟩)] (fun n => decide (0 ≤ n) && decide (n ≤ most)) W (enters_of Tryz.func186 (by kernel_rfl) rfl) (by omega) (bk.below hi bW (Nat.le_refl _)) fun x hx W' hW' => by
   have iB : IsBlk W w.heap.size #[.int .i64 most] 3 := by rw [hW]; infer_instance
   have hs : w.heap.size < W.heap.size := by rw [hW]; simp
   haveI iB' : IsBlk W' w.heap.size #[.int .i64 most] 3 := ⟨(hW'.block _ hs).trans iB.out⟩
   have hc0 : W'.cell? ⟨w.heap.size, 0, none⟩ = some (.int .i64 most) := by rw [IsBlk.cell]; rfl
   haveI := HasCell.of hc0
   exact mV x most _ W' hc0
  rw [decide_eq_true (Int.le_refl _), Bool.true_and] at this
  exact this
 clear hi
 go_enter Tryz.func133, Tryz.ntmps133
 go_wp2_with (refine (Up.run (HC.out _ rfl)).mono ?_; rintro e w' ⟨rfl, u, rfl⟩)
 go_ret
 exact ⟨rfl, by exact yd⟩
theorem qY (a : Option Addr) (cap : Nat) (zs : List Int) (w : World) (hm : zs.length ≤ 1000000) (hi : bQ w a zs) :
  Calls Tryz.prog 140 #[.slice a zs.length cap] w fun e w' => e = .returned (.bool (bH 9999 zs)) ∧ Below w.heap.size w w' := by
 have HC := Lib.hid (eY 9999 a cap zs w hm hi)
 clear hi
 go_enter Tryz.func140, Tryz.ntmps140
 go_wp2_with (refine (Up.run HC.out).mono ?_; rintro e w' ⟨rfl, u, rfl⟩)
 go_ret
 exact ⟨rfl, by exact yd⟩
end
section
open Go.RowKit Go.Shelf
attribute [local go_sem] IsBlk.cell IsBlk.frozen
theorem pD : (Tryz.prog.info? 26).map (·.size) = some 13 := by kernel_rfl
def fO (x : Phs) : Value := .agg (cy x).toArray
theorem vE (cs : Array Value) (hs : cs.size = 13) (g : Nat) (caps : Array Value) (B : Nat) (f : Bool) (W : World) (eg : Enters Tryz.prog g) [hB : HasCell W B 0] (hc0 : W.cell? ⟨B, 0, none⟩ = some (.func (.func g) #[] caps))
  (hc : ∀ W', Below W.heap.size W W' → Calls Tryz.prog g (#[.agg cs] ++ caps) W' fun e W'' => e = .returned (.bool f) ∧ Below W'.heap.size W' W'') :
  Calls Tryz.prog 180 #[.agg cs, .pointer (some ⟨B, 0, none⟩)] W fun e W' => e = .returned (.bool (!f)) ∧ Below W.heap.size W W' := by
 have HC := Lib.hid hc
 clear hc
 unfold Enters at eg
 haveI : LeSize (B + 1) W := ⟨hB.lt⟩
 go_enter Tryz.func180, Tryz.ntmps180
 go_wp2_with (first | (refine ax 26 _ rfl rfl rfl Tryz.underlying26 rfl (by rw [hs]; exact pD) ?_; go_simp) | (refine (Up.run (HC.out _ (by exact yd))).mono ?_; rintro e w' ⟨rfl, u, rfl⟩))
 go_ret
 exact ⟨rfl, by exact yd⟩
theorem vQ (a : Option Addr) (cap : Nat) (zs : List Phs) (g : Nat) (caps : Array Value) (p : Phs → Bool) (w : World) (eg : Enters Tryz.prog g) (hm : zs.length ≤ 1000000) (hi : bB w a 13 zs.length (aF cy zs)) (hp : cz w g caps fO zs p) :
  Calls Tryz.prog 209 #[.slice a zs.length cap, .func (.func g) #[] caps] w fun e w' => ∃ r : Int, e = .returned (.int .i64 r) ∧ decide (0 ≤ r) = zs.any p ∧ Below w.heap.size w w' := by
 have HI := Lib.hid hi
 have HP := Lib.hid hp
 clear hi hp
 unfold Enters at eg
 go_enter Tryz.func209, Tryz.ntmps209
 go_wp2
 go_loopw [8] (fun i wr => ∃ k : Nat, k ≤ zs.length ∧ i = .int .i64 k ∧ Hid ((zs.take k).any p = false) ∧ Below w.heap.size w wr) (fun i _ => zs.length - (intOf i).toNat)
 case atStart => exact ⟨0, Nat.zero_le _, rfl, Lib.hid rfl, Below.refl _ _⟩
 case round =>
  obtain ⟨k, hk, rfl, hN, hb⟩ := hrel
  haveI : LeSize w.heap.size wr := ⟨hb.size⟩
  by_cases hlt : k < zs.length
  ·obtain ⟨b, off, rfl, hbw, hc⟩ := HI.out.resolve_left (by omega)
   have el : Sem.run Tryz.prog (Instr.loadAt 26 (.pointer (some ⟨b, off + k * 13, none⟩))) wr = .ok (fO zs[k]) wr := by
    have hr : wr.rangeAt b (off + k * 13) (cy zs[k]) := fun j v hv => by
     have hj : j < 13 := by have := (List.getElem?_eq_some_iff.1 hv).1; simpa [cy] using this
     rw [hb.cell (p := ⟨b, off + k * 13 + j, none⟩) hbw, hc k hlt j hj]
     unfold aF
     rw [List.getElem?_eq_getElem hlt]
     simp only [Option.bind_some]
     rw [hv]; rfl
    exact run_loadAt_mid (P := Tryz.prog) wr b (off + k * 13) 26 (cy zs[k]) _ hr Tryz.underlying26 rfl pD
   have hx : zs[k] ∈ zs := List.getElem_mem _
   have HC : Hid (Calls Tryz.prog g (#[fO zs[k]] ++ caps) wr fun e W' => e = .returned (.bool (p zs[k])) ∧ ∃ u : Up wr, W' = u.w) := Lib.hid (Up.run (HP.out _ hx wr hb))
   have HS : Hid ((zs.take (k + 1)).any p = ((zs.take k).any p || p zs[k])) := Lib.hid (by
    rw [List.take_succ_eq_append_getElem hlt, List.any_append]; simp)
   have HT : Hid (p zs[k] = true → zs.any p = true) := Lib.hid fun h => List.any_eq_true.2 ⟨_, hx, h⟩
   clear hc hx
   have hkI : (k : Int) < zs.length := by omega
   generalize hz : zs[k] = z at *
   clear hz
   generalize fO z = az at *
   cases hpz : p z
   ·rw [hpz] at HC
    go_wp2_with (first | (refine au rfl rfl rfl el ?_; go_simp) | (refine HC.out.mono ?_; rintro e w' ⟨rfl, u, rfl⟩))
    go_roundw
    case rel => exact ⟨k + 1, by omega, by go_num, Lib.hid (by rw [HS.out, hN.out, hpz]; rfl), by exact yd⟩
    case measure => simp [intOf]; omega
   ·rw [hpz] at HC
    go_wp2_with (first | (refine au rfl rfl rfl el ?_; go_simp) | (refine HC.out.mono ?_; rintro e w' ⟨rfl, u, rfl⟩))
    go_ret
    exact ⟨_, rfl, by rw [HT.out hpz]; simp, by exact yd⟩
  ·obtain rfl : k = zs.length := by omega
   have HE : Hid (zs.any p = false) := Lib.hid (by have := hN.out; rwa [List.take_length] at this)
   go_wp2
   go_ret
   exact ⟨_, rfl, by rw [HE.out]; rfl, by exact yd⟩
theorem wg (a : Option Addr) (cap : Nat) (zs : List Phs) (g : Nat) (caps : Array Value) (p : Phs → Bool) (w : World) (eg : Enters Tryz.prog g) (hm : zs.length ≤ 1000000) (hi : bB w a 13 zs.length (aF cy zs)) (hp : cz w g caps fO zs p) :
  Calls Tryz.prog 179 #[.slice a zs.length cap, .func (.func g) #[] caps] w fun e w' => e = .returned (.bool (zs.any p)) ∧ Below w.heap.size w w' := by
 have HC := Lib.hid (vQ a cap zs g caps p w eg hm hi hp)
 clear hi hp
 go_enter Tryz.func179, Tryz.ntmps179
 go_wp2_with (refine HC.out.mono ?_; rintro e w' ⟨r, rfl, hr, hb⟩)
 go_ret
 exact ⟨rfl, hb⟩
theorem vO (a : Option Addr) (cap : Nat) (zs : List Phs) (most : Int) (g : Nat) (caps : Array Value) (f : Phs → Bool) (w : World) (eg : Enters Tryz.prog g) (hm : zs.length ≤ 1000000) (hi : bB w a 13 zs.length (aF cy zs)) (hp : cz w g caps fO zs f) :
  Calls Tryz.prog 129 #[.slice a zs.length cap, .int .i64 most, .func (.func g) #[] caps] w fun e w' => e = .returned (.bool (decide ((zs.length : Int) ≤ most) && zs.all f)) ∧ Below w.heap.size w w' := by
 have HC : Hid (∀ W, W = w.alloc (.cells #[.func (.func g) #[] caps] 143) → Calls Tryz.prog 179 #[.slice a zs.length cap, .func (.func 180) #[] #[.pointer (some ⟨w.heap.size, 0, none⟩)]] W fun e w' => e = .returned (.bool (zs.any fun x => !f x)) ∧ Below W.heap.size W w') := Lib.hid fun W hW => by
  have bW : Below w.heap.size w W := by rw [hW]; exact (Below.refl _ _).alloc (Nat.le_refl _) _
  refine wg a cap zs _ _ _ W (enters_of Tryz.func180 (by kernel_rfl) rfl) hm (bB.below hi bW (Nat.le_refl _)) fun x hx W' hW' => ?_
  have iB : IsBlk W w.heap.size #[.func (.func g) #[] caps] 143 := by rw [hW]; infer_instance
  have hs : w.heap.size < W.heap.size := by rw [hW]; simp
  haveI iB' : IsBlk W' w.heap.size #[.func (.func g) #[] caps] 143 := ⟨(hW'.block _ hs).trans iB.out⟩
  have hc0 : W'.cell? ⟨w.heap.size, 0, none⟩ = some (.func (.func g) #[] caps) := by rw [IsBlk.cell]; rfl
  haveI := HasCell.of hc0
  exact vE (cy x).toArray rfl g caps _ (f x) W' eg hc0 fun W2 hW2 => hp x hx W2 ((bW.trans (hW'.mono bW.size)).trans (hW2.mono (Nat.le_trans bW.size hW'.size)))
 have HA := Lib.hid (cO zs f)
 clear hi hp
 go_enter Tryz.func129, Tryz.ntmps129
 by_cases hl : (zs.length : Int) ≤ most
 ·go_wp2_with (refine (Up.run (HC.out _ rfl)).mono ?_; rintro e w' ⟨rfl, u, rfl⟩)
  go_ret
  exact ⟨aK (by rw [HA.out]; simp [hl]), by exact yd⟩
 ·go_wp2
  go_ret
  exact ⟨aK (by rw [show decide ((zs.length : Int) ≤ most) = false from decide_eq_false (by omega)]; rfl), by exact yd⟩
theorem pj : (Tryz.prog.info? 58).map (·.size) = some 7 := by kernel_rfl
def jY (x : Det) : Value := .agg (aQ x).toArray
theorem vT (cs : Array Value) (hs : cs.size = 7) (g : Nat) (caps : Array Value) (B : Nat) (f : Bool) (W : World) (eg : Enters Tryz.prog g) [hB : HasCell W B 0] (hc0 : W.cell? ⟨B, 0, none⟩ = some (.func (.func g) #[] caps))
  (hc : ∀ W', Below W.heap.size W W' → Calls Tryz.prog g (#[.agg cs] ++ caps) W' fun e W'' => e = .returned (.bool f) ∧ Below W'.heap.size W' W'') :
  Calls Tryz.prog 188 #[.agg cs, .pointer (some ⟨B, 0, none⟩)] W fun e W' => e = .returned (.bool (!f)) ∧ Below W.heap.size W W' := by
 have HC := Lib.hid hc
 clear hc
 unfold Enters at eg
 haveI : LeSize (B + 1) W := ⟨hB.lt⟩
 go_enter Tryz.func188, Tryz.ntmps188
 go_wp2_with (first | (refine ax 58 _ rfl rfl rfl Tryz.underlying58 rfl (by rw [hs]; exact pj) ?_; go_simp) | (refine (Up.run (HC.out _ (by exact yd))).mono ?_; rintro e w' ⟨rfl, u, rfl⟩))
 go_ret
 exact ⟨rfl, by exact yd⟩
theorem wu (a : Option Addr) (cap : Nat) (zs : List Det) (g : Nat) (caps : Array Value) (p : Det → Bool) (w : World) (eg : Enters Tryz.prog g) (hm : zs.length ≤ 1000000) (hi : bB w a 7 zs.length (aF aQ zs)) (hp : cz w g caps jY zs p) :
  Calls Tryz.prog 213 #[.slice a zs.length cap, .func (.func g) #[] caps] w fun e w' => ∃ r : Int, e = .returned (.int .i64 r) ∧ decide (0 ≤ r) = zs.any p ∧ Below w.heap.size w w' := by
 have HI := Lib.hid hi
 have HP := Lib.hid hp
 clear hi hp
 unfold Enters at eg
 go_enter Tryz.func213, Tryz.ntmps213
 go_wp2
 go_loopw [8] (fun i wr => ∃ k : Nat, k ≤ zs.length ∧ i = .int .i64 k ∧ Hid ((zs.take k).any p = false) ∧ Below w.heap.size w wr) (fun i _ => zs.length - (intOf i).toNat)
 case atStart => exact ⟨0, Nat.zero_le _, rfl, Lib.hid rfl, Below.refl _ _⟩
 case round =>
  obtain ⟨k, hk, rfl, hN, hb⟩ := hrel
  haveI : LeSize w.heap.size wr := ⟨hb.size⟩
  by_cases hlt : k < zs.length
  ·obtain ⟨b, off, rfl, hbw, hc⟩ := HI.out.resolve_left (by omega)
   have el : Sem.run Tryz.prog (Instr.loadAt 58 (.pointer (some ⟨b, off + k * 7, none⟩))) wr = .ok (jY zs[k]) wr := by
    have hr : wr.rangeAt b (off + k * 7) (aQ zs[k]) := fun j v hv => by
     have hj : j < 7 := by have := (List.getElem?_eq_some_iff.1 hv).1; simpa [aQ] using this
     rw [hb.cell (p := ⟨b, off + k * 7 + j, none⟩) hbw, hc k hlt j hj]
     unfold aF
     rw [List.getElem?_eq_getElem hlt]
     simp only [Option.bind_some]
     rw [hv]; rfl
    exact run_loadAt_mid (P := Tryz.prog) wr b (off + k * 7) 58 (aQ zs[k]) _ hr Tryz.underlying58 rfl pj
   have hx : zs[k] ∈ zs := List.getElem_mem _
   have HC : Hid (Calls Tryz.prog g (#[jY zs[k]] ++ caps) wr fun e W' => e = .returned (.bool (p zs[k])) ∧ ∃ u : Up wr, W' = u.w) := Lib.hid (Up.run (HP.out _ hx wr hb))
   have HS : Hid ((zs.take (k + 1)).any p = ((zs.take k).any p || p zs[k])) := Lib.hid (by
    rw [List.take_succ_eq_append_getElem hlt, List.any_append]; simp)
   have HT : Hid (p zs[k] = true → zs.any p = true) := Lib.hid fun h => List.any_eq_true.2 ⟨_, hx, h⟩
   clear hc hx
   have hkI : (k : Int) < zs.length := by omega
   generalize hz : zs[k] = z at *
   clear hz
   generalize jY z = az at *
   cases hpz : p z
   ·rw [hpz] at HC
    go_wp2_with (first | (refine au rfl rfl rfl el ?_; go_simp) | (refine HC.out.mono ?_; rintro e w' ⟨rfl, u, rfl⟩))
    go_roundw
    case rel => exact ⟨k + 1, by omega, by go_num, Lib.hid (by rw [HS.out, hN.out, hpz]; rfl), by exact yd⟩
    case measure => simp [intOf]; omega
   ·rw [hpz] at HC
    go_wp2_with (first | (refine au rfl rfl rfl el ?_; go_simp) | (refine HC.out.mono ?_; rintro e w' ⟨rfl, u, rfl⟩))
    go_ret
    exact ⟨_, rfl, by rw [HT.out hpz]; simp, by exact yd⟩
  ·obtain rfl : k = zs.length := by omega
   have HE : Hid (zs.any p = false) := Lib.hid (by have := hN.out; rwa [List.take_length] at this)
   go_wp2
   go_ret
   exact ⟨_, rfl, by rw [HE.out]; rfl, by exact yd⟩
theorem wX (a : Option Addr) (cap : Nat) (zs : List Det) (g : Nat) (caps : Array Value) (p : Det → Bool) (w : World) (eg : Enters Tryz.prog g) (hm : zs.length ≤ 1000000) (hi : bB w a 7 zs.length (aF aQ zs)) (hp : cz w g caps jY zs p) :
  Calls Tryz.prog 187 #[.slice a zs.length cap, .func (.func g) #[] caps] w fun e w' => e = .returned (.bool (zs.any p)) ∧ Below w.heap.size w w' := by
 have HC := Lib.hid (wu a cap zs g caps p w eg hm hi hp)
 clear hi hp
 go_enter Tryz.func187, Tryz.ntmps187
 go_wp2_with (refine HC.out.mono ?_; rintro e w' ⟨r, rfl, hr, hb⟩)
 go_ret
 exact ⟨rfl, hb⟩
theorem wI (a : Option Addr) (cap : Nat) (zs : List Det) (most : Int) (g : Nat) (caps : Array Value) (f : Det → Bool) (w : World) (eg : Enters Tryz.prog g) (hm : zs.length ≤ 1000000) (hi : bB w a 7 zs.length (aF aQ zs)) (hp : cz w g caps jY zs f) :
  Calls Tryz.prog 134 #[.slice a zs.length cap, .int .i64 most, .func (.func g) #[] caps] w fun e w' => e = .returned (.bool (decide ((zs.length : Int) ≤ most) && zs.all f)) ∧ Below w.heap.size w w' := by
 have HC : Hid (∀ W, W = w.alloc (.cells #[.func (.func g) #[] caps] 192) → Calls Tryz.prog 187 #[.slice a zs.length cap, .func (.func 188) #[] #[.pointer (some ⟨w.heap.size, 0, none⟩)]] W fun e w' => e = .returned (.bool (zs.any fun x => !f x)) ∧ Below W.heap.size W w') := Lib.hid fun W hW => by
  have bW : Below w.heap.size w W := by rw [hW]; exact (Below.refl _ _).alloc (Nat.le_refl _) _
  refine wX a cap zs _ _ _ W (enters_of Tryz.func188 (by kernel_rfl) rfl) hm (bB.below hi bW (Nat.le_refl _)) fun x hx W' hW' => ?_
  have iB : IsBlk W w.heap.size #[.func (.func g) #[] caps] 192 := by rw [hW]; infer_instance
  have hs : w.heap.size < W.heap.size := by rw [hW]; simp
  haveI iB' : IsBlk W' w.heap.size #[.func (.func g) #[] caps] 192 := ⟨(hW'.block _ hs).trans iB.out⟩
  have hc0 : W'.cell? ⟨w.heap.size, 0, none⟩ = some (.func (.func g) #[] caps) := by rw [IsBlk.cell]; rfl
  haveI := HasCell.of hc0
  exact vT (aQ x).toArray rfl g caps _ (f x) W' eg hc0 fun W2 hW2 => hp x hx W2 ((bW.trans (hW'.mono bW.size)).trans (hW2.mono (Nat.le_trans bW.size hW'.size)))
 have HA := Lib.hid (cO zs f)
 clear hi hp
 go_enter Tryz.func134, Tryz.ntmps134
 by_cases hl : (zs.length : Int) ≤ most
 ·go_wp2_with (refine (Up.run (HC.out _ rfl)).mono ?_; rintro e w' ⟨rfl, u, rfl⟩)
  go_ret
  exact ⟨aK (by rw [HA.out]; simp [hl]), by exact yd⟩
 ·go_wp2
  go_ret
  exact ⟨aK (by rw [show decide ((zs.length : Int) ≤ most) = false from decide_eq_false (by omega)]; rfl), by exact yd⟩
theorem lL : (Tryz.prog.info? 100).map (·.size) = some 11 := by kernel_rfl
def eA (x : Rl) : Value := .agg (dq x).toArray
theorem wO (cs : Array Value) (hs : cs.size = 11) (g : Nat) (caps : Array Value) (B : Nat) (f : Bool) (W : World) (eg : Enters Tryz.prog g) [hB : HasCell W B 0] (hc0 : W.cell? ⟨B, 0, none⟩ = some (.func (.func g) #[] caps))
  (hc : ∀ W', Below W.heap.size W W' → Calls Tryz.prog g (#[.agg cs] ++ caps) W' fun e W'' => e = .returned (.bool f) ∧ Below W'.heap.size W' W'') :
  Calls Tryz.prog 192 #[.agg cs, .pointer (some ⟨B, 0, none⟩)] W fun e W' => e = .returned (.bool (!f)) ∧ Below W.heap.size W W' := by
 have HC := Lib.hid hc
 clear hc
 unfold Enters at eg
 haveI : LeSize (B + 1) W := ⟨hB.lt⟩
 go_enter Tryz.func192, Tryz.ntmps192
 go_wp2_with (first | (refine ax 100 _ rfl rfl rfl Tryz.underlying100 rfl (by rw [hs]; exact lL) ?_; go_simp) | (refine (Up.run (HC.out _ (by exact yd))).mono ?_; rintro e w' ⟨rfl, u, rfl⟩))
 go_ret
 exact ⟨rfl, by exact yd⟩
theorem vM (a : Option Addr) (cap : Nat) (zs : List Rl) (g : Nat) (caps : Array Value) (p : Rl → Bool) (w : World) (eg : Enters Tryz.prog g) (hm : zs.length ≤ 1000000) (hi : bB w a 11 zs.length (aF dq zs)) (hp : cz w g caps eA zs p) :
  Calls Tryz.prog 216 #[.slice a zs.length cap, .func (.func g) #[] caps] w fun e w' => ∃ r : Int, e = .returned (.int .i64 r) ∧ decide (0 ≤ r) = zs.any p ∧ Below w.heap.size w w' := by
 have HI := Lib.hid hi
 have HP := Lib.hid hp
 clear hi hp
 unfold Enters at eg
 go_enter Tryz.func216, Tryz.ntmps216
 go_wp2
 go_loopw [8] (fun i wr => ∃ k : Nat, k ≤ zs.length ∧ i = .int .i64 k ∧ Hid ((zs.take k).any p = false) ∧ Below w.heap.size w wr) (fun i _ => zs.length - (intOf i).toNat)
 case atStart => exact ⟨0, Nat.zero_le _, rfl, Lib.hid rfl, Below.refl _ _⟩
 case round =>
  obtain ⟨k, hk, rfl, hN, hb⟩ := hrel
  haveI : LeSize w.heap.size wr := ⟨hb.size⟩
  by_cases hlt : k < zs.length
  ·obtain ⟨b, off, rfl, hbw, hc⟩ := HI.out.resolve_left (by omega)
   have el : Sem.run Tryz.prog (Instr.loadAt 100 (.pointer (some ⟨b, off + k * 11, none⟩))) wr = .ok (eA zs[k]) wr := by
    have hr : wr.rangeAt b (off + k * 11) (dq zs[k]) := fun j v hv => by
     have hj : j < 11 := by have := (List.getElem?_eq_some_iff.1 hv).1; simpa [dq] using this
     rw [hb.cell (p := ⟨b, off + k * 11 + j, none⟩) hbw, hc k hlt j hj]
     unfold aF
     rw [List.getElem?_eq_getElem hlt]
     simp only [Option.bind_some]
     rw [hv]; rfl
    exact run_loadAt_mid (P := Tryz.prog) wr b (off + k * 11) 100 (dq zs[k]) _ hr Tryz.underlying100 rfl lL
   have hx : zs[k] ∈ zs := List.getElem_mem _
   have HC : Hid (Calls Tryz.prog g (#[eA zs[k]] ++ caps) wr fun e W' => e = .returned (.bool (p zs[k])) ∧ ∃ u : Up wr, W' = u.w) := Lib.hid (Up.run (HP.out _ hx wr hb))
   have HS : Hid ((zs.take (k + 1)).any p = ((zs.take k).any p || p zs[k])) := Lib.hid (by
    rw [List.take_succ_eq_append_getElem hlt, List.any_append]; simp)
   have HT : Hid (p zs[k] = true → zs.any p = true) := Lib.hid fun h => List.any_eq_true.2 ⟨_, hx, h⟩
   clear hc hx
   have hkI : (k : Int) < zs.length := by omega
   generalize hz : zs[k] = z at *
   clear hz
   generalize eA z = az at *
   cases hpz : p z
   ·rw [hpz] at HC
    go_wp2_with (first | (refine au rfl rfl rfl el ?_; go_simp) | (refine HC.out.mono ?_; rintro e w' ⟨rfl, u, rfl⟩))
    go_roundw
    case rel => exact ⟨k + 1, by omega, by go_num, Lib.hid (by rw [HS.out, hN.out, hpz]; rfl), by exact yd⟩
    case measure => simp [intOf]; omega
   ·rw [hpz] at HC
    go_wp2_with (first | (refine au rfl rfl rfl el ?_; go_simp) | (refine HC.out.mono ?_; rintro e w' ⟨rfl, u, rfl⟩))
    go_ret
    exact ⟨_, rfl, by rw [HT.out hpz]; simp, by exact yd⟩
  ·obtain rfl : k = zs.length := by omega
   have HE : Hid (zs.any p = false) := Lib.hid (by have := hN.out; rwa [List.take_length] at this)
   go_wp2
   go_ret
   exact ⟨_, rfl, by rw [HE.out]; rfl, by exact yd⟩
theorem vX (a : Option Addr) (cap : Nat) (zs : List Rl) (g : Nat) (caps : Array Value) (p : Rl → Bool) (w : World) (eg : Enters Tryz.prog g) (hm : zs.length ≤ 1000000) (hi : bB w a 11 zs.length (aF dq zs)) (hp : cz w g caps eA zs p) :
  Calls Tryz.prog 191 #[.slice a zs.length cap, .func (.func g) #[] caps] w fun e w' => e = .returned (.bool (zs.any p)) ∧ Below w.heap.size w w' := by
 have HC := Lib.hid (vM a cap zs g caps p w eg hm hi hp)
 clear hi hp
 go_enter Tryz.func191, Tryz.ntmps191
 go_wp2_with (refine HC.out.mono ?_; rintro e w' ⟨r, rfl, hr, hb⟩)
 go_ret
 exact ⟨rfl, hb⟩
theorem vF (a : Option Addr) (cap : Nat) (zs : List Rl) (most : Int) (g : Nat) (caps : Array Value) (f : Rl → Bool) (w : World) (eg : Enters Tryz.prog g) (hm : zs.length ≤ 1000000) (hi : bB w a 11 zs.length (aF dq zs)) (hp : cz w g caps eA zs f) :
  Calls Tryz.prog 136 #[.slice a zs.length cap, .int .i64 most, .func (.func g) #[] caps] w fun e w' => e = .returned (.bool (decide ((zs.length : Int) ≤ most) && zs.all f)) ∧ Below w.heap.size w w' := by
 have HC : Hid (∀ W, W = w.alloc (.cells #[.func (.func g) #[] caps] 194) → Calls Tryz.prog 191 #[.slice a zs.length cap, .func (.func 192) #[] #[.pointer (some ⟨w.heap.size, 0, none⟩)]] W fun e w' => e = .returned (.bool (zs.any fun x => !f x)) ∧ Below W.heap.size W w') := Lib.hid fun W hW => by
  have bW : Below w.heap.size w W := by rw [hW]; exact (Below.refl _ _).alloc (Nat.le_refl _) _
  refine vX a cap zs _ _ _ W (enters_of Tryz.func192 (by kernel_rfl) rfl) hm (bB.below hi bW (Nat.le_refl _)) fun x hx W' hW' => ?_
  have iB : IsBlk W w.heap.size #[.func (.func g) #[] caps] 194 := by rw [hW]; infer_instance
  have hs : w.heap.size < W.heap.size := by rw [hW]; simp
  haveI iB' : IsBlk W' w.heap.size #[.func (.func g) #[] caps] 194 := ⟨(hW'.block _ hs).trans iB.out⟩
  have hc0 : W'.cell? ⟨w.heap.size, 0, none⟩ = some (.func (.func g) #[] caps) := by rw [IsBlk.cell]; rfl
  haveI := HasCell.of hc0
  exact wO (dq x).toArray rfl g caps _ (f x) W' eg hc0 fun W2 hW2 => hp x hx W2 ((bW.trans (hW'.mono bW.size)).trans (hW2.mono (Nat.le_trans bW.size hW'.size)))
 have HA := Lib.hid (cO zs f)
 clear hi hp
 go_enter Tryz.func136, Tryz.ntmps136
 by_cases hl : (zs.length : Int) ≤ most
 ·go_wp2_with (refine (Up.run (HC.out _ rfl)).mono ?_; rintro e w' ⟨rfl, u, rfl⟩)
  go_ret
  exact ⟨aK (by rw [HA.out]; simp [hl]), by exact yd⟩
 ·go_wp2
  go_ret
  exact ⟨aK (by rw [show decide ((zs.length : Int) ≤ most) = false from decide_eq_false (by omega)]; rfl), by exact yd⟩
theorem pI : (Tryz.prog.info? 110).map (·.size) = some 2 := by kernel_rfl
def iD (x : Bus) : Value := .agg (dm x).toArray
theorem vC (cs : Array Value) (hs : cs.size = 2) (g : Nat) (caps : Array Value) (B : Nat) (f : Bool) (W : World) (eg : Enters Tryz.prog g) [hB : HasCell W B 0] (hc0 : W.cell? ⟨B, 0, none⟩ = some (.func (.func g) #[] caps))
  (hc : ∀ W', Below W.heap.size W W' → Calls Tryz.prog g (#[.agg cs] ++ caps) W' fun e W'' => e = .returned (.bool f) ∧ Below W'.heap.size W' W'') :
  Calls Tryz.prog 194 #[.agg cs, .pointer (some ⟨B, 0, none⟩)] W fun e W' => e = .returned (.bool (!f)) ∧ Below W.heap.size W W' := by
 have HC := Lib.hid hc
 clear hc
 unfold Enters at eg
 haveI : LeSize (B + 1) W := ⟨hB.lt⟩
 go_enter Tryz.func194, Tryz.ntmps194
 go_wp2_with (first | (refine ax 110 _ rfl rfl rfl Tryz.underlying110 rfl (by rw [hs]; exact pI) ?_; go_simp) | (refine (Up.run (HC.out _ (by exact yd))).mono ?_; rintro e w' ⟨rfl, u, rfl⟩))
 go_ret
 exact ⟨rfl, by exact yd⟩
theorem wP (a : Option Addr) (cap : Nat) (zs : List Bus) (g : Nat) (caps : Array Value) (p : Bus → Bool) (w : World) (eg : Enters Tryz.prog g) (hm : zs.length ≤ 1000000) (hi : bB w a 2 zs.length (aF dm zs)) (hp : cz w g caps iD zs p) :
  Calls Tryz.prog 217 #[.slice a zs.length cap, .func (.func g) #[] caps] w fun e w' => ∃ r : Int, e = .returned (.int .i64 r) ∧ decide (0 ≤ r) = zs.any p ∧ Below w.heap.size w w' := by
 have HI := Lib.hid hi
 have HP := Lib.hid hp
 clear hi hp
 unfold Enters at eg
 go_enter Tryz.func217, Tryz.ntmps217
 go_wp2
 go_loopw [8] (fun i wr => ∃ k : Nat, k ≤ zs.length ∧ i = .int .i64 k ∧ Hid ((zs.take k).any p = false) ∧ Below w.heap.size w wr) (fun i _ => zs.length - (intOf i).toNat)
 case atStart => exact ⟨0, Nat.zero_le _, rfl, Lib.hid rfl, Below.refl _ _⟩
 case round =>
  obtain ⟨k, hk, rfl, hN, hb⟩ := hrel
  haveI : LeSize w.heap.size wr := ⟨hb.size⟩
  by_cases hlt : k < zs.length
  ·obtain ⟨b, off, rfl, hbw, hc⟩ := HI.out.resolve_left (by omega)
   have el : Sem.run Tryz.prog (Instr.loadAt 110 (.pointer (some ⟨b, off + k * 2, none⟩))) wr = .ok (iD zs[k]) wr := by
    have hr : wr.rangeAt b (off + k * 2) (dm zs[k]) := fun j v hv => by
     have hj : j < 2 := by have := (List.getElem?_eq_some_iff.1 hv).1; simpa [dm] using this
     rw [hb.cell (p := ⟨b, off + k * 2 + j, none⟩) hbw, hc k hlt j hj]
     unfold aF
     rw [List.getElem?_eq_getElem hlt]
     simp only [Option.bind_some]
     rw [hv]; rfl
    exact run_loadAt_mid (P := Tryz.prog) wr b (off + k * 2) 110 (dm zs[k]) _ hr Tryz.underlying110 rfl pI
   have hx : zs[k] ∈ zs := List.getElem_mem _
   have HC : Hid (Calls Tryz.prog g (#[iD zs[k]] ++ caps) wr fun e W' => e = .returned (.bool (p zs[k])) ∧ ∃ u : Up wr, W' = u.w) := Lib.hid (Up.run (HP.out _ hx wr hb))
   have HS : Hid ((zs.take (k + 1)).any p = ((zs.take k).any p || p zs[k])) := Lib.hid (by
    rw [List.take_succ_eq_append_getElem hlt, List.any_append]; simp)
   have HT : Hid (p zs[k] = true → zs.any p = true) := Lib.hid fun h => List.any_eq_true.2 ⟨_, hx, h⟩
   clear hc hx
   have hkI : (k : Int) < zs.length := by omega
   generalize hz : zs[k] = z at *
   clear hz
   generalize iD z = az at *
   cases hpz : p z
   ·rw [hpz] at HC
    go_wp2_with (first | (refine au rfl rfl rfl el ?_; go_simp) | (refine HC.out.mono ?_; rintro e w' ⟨rfl, u, rfl⟩))
    go_roundw
    case rel => exact ⟨k + 1, by omega, by go_num, Lib.hid (by rw [HS.out, hN.out, hpz]; rfl), by exact yd⟩
    case measure => simp [intOf]; omega
   ·rw [hpz] at HC
    go_wp2_with (first | (refine au rfl rfl rfl el ?_; go_simp) | (refine HC.out.mono ?_; rintro e w' ⟨rfl, u, rfl⟩))
    go_ret
    exact ⟨_, rfl, by rw [HT.out hpz]; simp, by exact yd⟩
  ·obtain rfl : k = zs.length := by omega
   have HE : Hid (zs.any p = false) := Lib.hid (by have := hN.out; rwa [List.take_length] at this)
   go_wp2
   go_ret
   exact ⟨_, rfl, by rw [HE.out]; rfl, by exact yd⟩
theorem wU (a : Option Addr) (cap : Nat) (zs : List Bus) (g : Nat) (caps : Array Value) (p : Bus → Bool) (w : World) (eg : Enters Tryz.prog g) (hm : zs.length ≤ 1000000) (hi : bB w a 2 zs.length (aF dm zs)) (hp : cz w g caps iD zs p) :
  Calls Tryz.prog 193 #[.slice a zs.length cap, .func (.func g) #[] caps] w fun e w' => e = .returned (.bool (zs.any p)) ∧ Below w.heap.size w w' := by
 have HC := Lib.hid (wP a cap zs g caps p w eg hm hi hp)
 clear hi hp
 go_enter Tryz.func193, Tryz.ntmps193
 go_wp2_with (refine HC.out.mono ?_; rintro e w' ⟨r, rfl, hr, hb⟩)
 go_ret
 exact ⟨rfl, hb⟩
theorem wW (a : Option Addr) (cap : Nat) (zs : List Bus) (most : Int) (g : Nat) (caps : Array Value) (f : Bus → Bool) (w : World) (eg : Enters Tryz.prog g) (hm : zs.length ≤ 1000000) (hi : bB w a 2 zs.length (aF dm zs)) (hp : cz w g caps iD zs f) :
  Calls Tryz.prog 138 #[.slice a zs.length cap, .int .i64 most, .func (.func g) #[] caps] w fun e w' => e = .returned (.bool (decide ((zs.length : Int) ≤ most) && zs.all f)) ∧ Below w.heap.size w w' := by
 have HC : Hid (∀ W, W = w.alloc (.cells #[.func (.func g) #[] caps] 196) → Calls Tryz.prog 193 #[.slice a zs.length cap, .func (.func 194) #[] #[.pointer (some ⟨w.heap.size, 0, none⟩)]] W fun e w' => e = .returned (.bool (zs.any fun x => !f x)) ∧ Below W.heap.size W w') := Lib.hid fun W hW => by
  have bW : Below w.heap.size w W := by rw [hW]; exact (Below.refl _ _).alloc (Nat.le_refl _) _
  refine wU a cap zs _ _ _ W (enters_of Tryz.func194 (by kernel_rfl) rfl) hm (bB.below hi bW (Nat.le_refl _)) fun x hx W' hW' => ?_
  have iB : IsBlk W w.heap.size #[.func (.func g) #[] caps] 196 := by rw [hW]; infer_instance
  have hs : w.heap.size < W.heap.size := by rw [hW]; simp
  haveI iB' : IsBlk W' w.heap.size #[.func (.func g) #[] caps] 196 := ⟨(hW'.block _ hs).trans iB.out⟩
  have hc0 : W'.cell? ⟨w.heap.size, 0, none⟩ = some (.func (.func g) #[] caps) := by rw [IsBlk.cell]; rfl
  haveI := HasCell.of hc0
  exact vC (dm x).toArray rfl g caps _ (f x) W' eg hc0 fun W2 hW2 => hp x hx W2 ((bW.trans (hW'.mono bW.size)).trans (hW2.mono (Nat.le_trans bW.size hW'.size)))
 have HA := Lib.hid (cO zs f)
 clear hi hp
 go_enter Tryz.func138, Tryz.ntmps138
 by_cases hl : (zs.length : Int) ≤ most
 ·go_wp2_with (refine (Up.run (HC.out _ rfl)).mono ?_; rintro e w' ⟨rfl, u, rfl⟩)
  go_ret
  exact ⟨aK (by rw [HA.out]; simp [hl]), by exact yd⟩
 ·go_wp2
  go_ret
  exact ⟨aK (by rw [show decide ((zs.length : Int) ≤ most) = false from decide_eq_false (by omega)]; rfl), by exact yd⟩
def uB (x : (Value × Value) × (List Int × List Int)) : List Value := [x.1.1, x.1.2]
theorem pG : (Tryz.prog.info? 60).map (·.size) = some 2 := by kernel_rfl
def kS (x : ((Value × Value) × (List Int × List Int))) : Value := .agg (uB x).toArray
theorem wz (cs : Array Value) (hs : cs.size = 2) (g : Nat) (caps : Array Value) (B : Nat) (f : Bool) (W : World) (eg : Enters Tryz.prog g) [hB : HasCell W B 0] (hc0 : W.cell? ⟨B, 0, none⟩ = some (.func (.func g) #[] caps))
  (hc : ∀ W', Below W.heap.size W W' → Calls Tryz.prog g (#[.agg cs] ++ caps) W' fun e W'' => e = .returned (.bool f) ∧ Below W'.heap.size W' W'') :
  Calls Tryz.prog 182 #[.agg cs, .pointer (some ⟨B, 0, none⟩)] W fun e W' => e = .returned (.bool (!f)) ∧ Below W.heap.size W W' := by
 have HC := Lib.hid hc
 clear hc
 unfold Enters at eg
 haveI : LeSize (B + 1) W := ⟨hB.lt⟩
 go_enter Tryz.func182, Tryz.ntmps182
 go_wp2_with (first | (refine ax 60 _ rfl rfl rfl Tryz.underlying60 rfl (by rw [hs]; exact pG) ?_; go_simp) | (refine (Up.run (HC.out _ (by exact yd))).mono ?_; rintro e w' ⟨rfl, u, rfl⟩))
 go_ret
 exact ⟨rfl, by exact yd⟩
theorem aex (a : Option Addr) (cap : Nat) (zs : List ((Value × Value) × (List Int × List Int))) (g : Nat) (caps : Array Value) (p : ((Value × Value) × (List Int × List Int)) → Bool) (w : World) (eg : Enters Tryz.prog g) (hm : zs.length ≤ 1000000) (hi : bB w a 2 zs.length (aF uB zs)) (hp : cz w g caps kS zs p) :
  Calls Tryz.prog 210 #[.slice a zs.length cap, .func (.func g) #[] caps] w fun e w' => ∃ r : Int, e = .returned (.int .i64 r) ∧ decide (0 ≤ r) = zs.any p ∧ Below w.heap.size w w' := by
 have HI := Lib.hid hi
 have HP := Lib.hid hp
 clear hi hp
 unfold Enters at eg
 go_enter Tryz.func210, Tryz.ntmps210
 go_wp2
 go_loopw [8] (fun i wr => ∃ k : Nat, k ≤ zs.length ∧ i = .int .i64 k ∧ Hid ((zs.take k).any p = false) ∧ Below w.heap.size w wr) (fun i _ => zs.length - (intOf i).toNat)
 case atStart => exact ⟨0, Nat.zero_le _, rfl, Lib.hid rfl, Below.refl _ _⟩
 case round =>
  obtain ⟨k, hk, rfl, hN, hb⟩ := hrel
  haveI : LeSize w.heap.size wr := ⟨hb.size⟩
  by_cases hlt : k < zs.length
  ·obtain ⟨b, off, rfl, hbw, hc⟩ := HI.out.resolve_left (by omega)
   have el : Sem.run Tryz.prog (Instr.loadAt 60 (.pointer (some ⟨b, off + k * 2, none⟩))) wr = .ok (kS zs[k]) wr := by
    have hr : wr.rangeAt b (off + k * 2) (uB zs[k]) := fun j v hv => by
     have hj : j < 2 := by have := (List.getElem?_eq_some_iff.1 hv).1; simpa [uB] using this
     rw [hb.cell (p := ⟨b, off + k * 2 + j, none⟩) hbw, hc k hlt j hj]
     unfold aF
     rw [List.getElem?_eq_getElem hlt]
     simp only [Option.bind_some]
     rw [hv]; rfl
    exact run_loadAt_mid (P := Tryz.prog) wr b (off + k * 2) 60 (uB zs[k]) _ hr Tryz.underlying60 rfl pG
   have hx : zs[k] ∈ zs := List.getElem_mem _
   have HC : Hid (Calls Tryz.prog g (#[kS zs[k]] ++ caps) wr fun e W' => e = .returned (.bool (p zs[k])) ∧ ∃ u : Up wr, W' = u.w) := Lib.hid (Up.run (HP.out _ hx wr hb))
   have HS : Hid ((zs.take (k + 1)).any p = ((zs.take k).any p || p zs[k])) := Lib.hid (by
    rw [List.take_succ_eq_append_getElem hlt, List.any_append]; simp)
   have HT : Hid (p zs[k] = true → zs.any p = true) := Lib.hid fun h => List.any_eq_true.2 ⟨_, hx, h⟩
   clear hc hx
   have hkI : (k : Int) < zs.length := by omega
   generalize hz : zs[k] = z at *
   clear hz
   generalize kS z = az at *
   cases hpz : p z
   ·rw [hpz] at HC
    go_wp2_with (first | (refine au rfl rfl rfl el ?_; go_simp) | (refine HC.out.mono ?_; rintro e w' ⟨rfl, u, rfl⟩))
    go_roundw
    case rel => exact ⟨k + 1, by omega, by go_num, Lib.hid (by rw [HS.out, hN.out, hpz]; rfl), by exact yd⟩
    case measure => simp [intOf]; omega
   ·rw [hpz] at HC
    go_wp2_with (first | (refine au rfl rfl rfl el ?_; go_simp) | (refine HC.out.mono ?_; rintro e w' ⟨rfl, u, rfl⟩))
    go_ret
    exact ⟨_, rfl, by rw [HT.out hpz]; simp, by exact yd⟩
  ·obtain rfl : k = zs.length := by omega
   have HE : Hid (zs.any p = false) := Lib.hid (by have := hN.out; rwa [List.take_length] at this)
   go_wp2
   go_ret
   exact ⟨_, rfl, by rw [HE.out]; rfl, by exact yd⟩
theorem wl (a : Option Addr) (cap : Nat) (zs : List ((Value × Value) × (List Int × List Int))) (g : Nat) (caps : Array Value) (p : ((Value × Value) × (List Int × List Int)) → Bool) (w : World) (eg : Enters Tryz.prog g) (hm : zs.length ≤ 1000000) (hi : bB w a 2 zs.length (aF uB zs)) (hp : cz w g caps kS zs p) :
  Calls Tryz.prog 181 #[.slice a zs.length cap, .func (.func g) #[] caps] w fun e w' => e = .returned (.bool (zs.any p)) ∧ Below w.heap.size w w' := by
 have HC := Lib.hid (aex a cap zs g caps p w eg hm hi hp)
 clear hi hp
 go_enter Tryz.func181, Tryz.ntmps181
 go_wp2_with (refine HC.out.mono ?_; rintro e w' ⟨r, rfl, hr, hb⟩)
 go_ret
 exact ⟨rfl, hb⟩
theorem vG (a : Option Addr) (cap : Nat) (zs : List ((Value × Value) × (List Int × List Int))) (most : Int) (g : Nat) (caps : Array Value) (f : ((Value × Value) × (List Int × List Int)) → Bool) (w : World) (eg : Enters Tryz.prog g) (hm : zs.length ≤ 1000000) (hi : bB w a 2 zs.length (aF uB zs)) (hp : cz w g caps kS zs f) :
  Calls Tryz.prog 131 #[.slice a zs.length cap, .int .i64 most, .func (.func g) #[] caps] w fun e w' => e = .returned (.bool (decide ((zs.length : Int) ≤ most) && zs.all f)) ∧ Below w.heap.size w w' := by
 have HC : Hid (∀ W, W = w.alloc (.cells #[.func (.func g) #[] caps] 189) → Calls Tryz.prog 181 #[.slice a zs.length cap, .func (.func 182) #[] #[.pointer (some ⟨w.heap.size, 0, none⟩)]] W fun e w' => e = .returned (.bool (zs.any fun x => !f x)) ∧ Below W.heap.size W w') := Lib.hid fun W hW => by
  have bW : Below w.heap.size w W := by rw [hW]; exact (Below.refl _ _).alloc (Nat.le_refl _) _
  refine wl a cap zs _ _ _ W (enters_of Tryz.func182 (by kernel_rfl) rfl) hm (bB.below hi bW (Nat.le_refl _)) fun x hx W' hW' => ?_
  have iB : IsBlk W w.heap.size #[.func (.func g) #[] caps] 189 := by rw [hW]; infer_instance
  have hs : w.heap.size < W.heap.size := by rw [hW]; simp
  haveI iB' : IsBlk W' w.heap.size #[.func (.func g) #[] caps] 189 := ⟨(hW'.block _ hs).trans iB.out⟩
  have hc0 : W'.cell? ⟨w.heap.size, 0, none⟩ = some (.func (.func g) #[] caps) := by rw [IsBlk.cell]; rfl
  haveI := HasCell.of hc0
  exact wz (uB x).toArray rfl g caps _ (f x) W' eg hc0 fun W2 hW2 => hp x hx W2 ((bW.trans (hW'.mono bW.size)).trans (hW2.mono (Nat.le_trans bW.size hW'.size)))
 have HA := Lib.hid (cO zs f)
 clear hi hp
 go_enter Tryz.func131, Tryz.ntmps131
 by_cases hl : (zs.length : Int) ≤ most
 ·go_wp2_with (refine (Up.run (HC.out _ rfl)).mono ?_; rintro e w' ⟨rfl, u, rfl⟩)
  go_ret
  exact ⟨aK (by rw [HA.out]; simp [hl]), by exact yd⟩
 ·go_wp2
  go_ret
  exact ⟨aK (by rw [show decide ((zs.length : Int) ≤ most) = false from decide_eq_false (by omega)]; rfl), by exact yd⟩
end
section
open Go.RowKit Go.Shelf
attribute [local go_sem] IsBlk.cell IsBlk.frozen
theorem am (most : Int) (zs : List Int) (w : World) (b : Nat) (t : TypeId) (cs : Array Value) (n c : Nat) (hb : b = w.heap.size) (hcs : cs = (zs.map (Value.int .i64)).toArray) (hn : n = zs.length) (hl : zs.length ≤ 1000) :
  Calls Tryz.prog 133 #[.int .i64 most, .slice (some ⟨b, 0, none⟩) n c] (w.alloc (.cells cs t)) fun e w' => e = .returned (.bool (bH most zs)) ∧ ∃ u : Up (w.alloc (.cells cs t)), w' = u.w := by
 rw [hn]
 exact Up.run (eY most _ c zs _ (by omega) (cU zs hb hcs))
theorem av (zs : List Int) (w : World) (b : Nat) (t : TypeId) (cs : Array Value) (n c : Nat) (hb : b = w.heap.size) (hcs : cs = (zs.map (Value.int .i64)).toArray) (hn : n = zs.length) (hl : zs.length ≤ 1000) :
  Calls Tryz.prog 140 #[.slice (some ⟨b, 0, none⟩) n c] (w.alloc (.cells cs t)) fun e w' => e = .returned (.bool (bH 9999 zs)) ∧ ∃ u : Up (w.alloc (.cells cs t)), w' = u.w := by
 rw [hn]
 exact Up.run (qY _ c zs _ (by omega) (cU zs hb hcs))
theorem oM (p : Phs) (w : World) : Calls Tryz.prog 130 #[fO p] w fun e w' => e = .returned (.bool (gq p)) ∧ Below w.heap.size w w' := by
 obtain ⟨on, a1, a2, a3, a4, a5, a6, a7, a8, a9, a10, lk, rs⟩ := p
 unfold fO gq
 simp only [cy]
 obtain ⟨T1, hT1⟩ : ∃ x, bH 9999 [a1, a2, a3, a4, a5, a6, a7, a8, a9] = x := ⟨_, rfl⟩
 obtain ⟨T2, hT2⟩ : ∃ x, bH 3 [a10] = x := ⟨_, rfl⟩
 have H1 := Lib.hid hT1
 have H2 := Lib.hid hT2
 rw [hT1, hT2]
 clear hT1 hT2
 go_enter Tryz.func130, Tryz.ntmps130
 cases T1
 ·go_wp2_with (go_at_call 140; refine (av [a1, a2, a3, a4, a5, a6, a7, a8, a9] _ _ _ _ _ _ (by simp) rfl rfl (by simp)).mono ?_; rw [H1.out]; rintro e w' ⟨rfl, u, rfl⟩)
  go_ret
  exact ⟨rfl, by exact yd⟩
 ·go_wp2_with (first | (go_at_call 140; refine (av [a1, a2, a3, a4, a5, a6, a7, a8, a9] _ _ _ _ _ _ (by simp) rfl rfl (by simp)).mono ?_; rw [H1.out]; rintro e w' ⟨rfl, u, rfl⟩) | (go_at_call 133; refine (am 3 [a10] _ _ _ _ _ _ (by simp) rfl rfl (by simp)).mono ?_; rw [H2.out]; rintro e w' ⟨rfl, u2, rfl⟩))
  go_ret
  exact ⟨rfl, by exact yd⟩
end
section
open Go.RowKit Go.Shelf
attribute [local go_sem] IsBlk.cell IsBlk.frozen
theorem sw (t : TypeId) (x y : Nat) (w : World) : ∃ r w', Sem.run Tryz.prog (binOp .mul t (.float .f64 x) (.float .f64 y)) w = .ok (.float .f64 r) w' ∧ Below w.heap.size w w' := by
 cases h : FloatKind.f64.format.mul x y with
 | some r => exact ⟨r, w, by simp [binOp, Op.floatArith, h], Below.refl _ _⟩
 | none => exact ⟨_, w.drew, by simp [binOp, Op.floatArith, h, Question.forced]; rfl, (Below.refl _ _).drew⟩
theorem uY (x : Nat) (w : World) : ∃ n w', Sem.run Tryz.prog (convert 56 3 (.float .f64 x)) w = .ok (.int .i64 n) w' ∧ Below w.heap.size w w' := by
 have hany : ∃ n w', Sem.run Tryz.prog ((fun a : Nat => Value.int IntKind.i64 (IntKind.i64.wrap a)) <$> choose (Question.floatToInt FloatKind.f64 x IntKind.i64)) w = .ok (.int .i64 n) w' ∧ Below w.heap.size w w' :=
  ⟨_, w.drew, by simp [Question.forced]; rfl, (Below.refl _ _).drew⟩
 unfold convert
 simp [run_underlying Tryz.underlying56, run_underlying Tryz.underlying3, go_sem, Conv.floatToInt]
 cases h : Ieee.Datum.toInt Ieee.Toward.zero (FloatKind.f64.decode x) with
 | none => exact hany
 | some n =>
  by_cases hr : IntKind.i64.min ≤ n ∧ n ≤ 9223372036854775807
  ·exact ⟨n, w, by simp only [if_pos hr]; rfl, Below.refl _ _⟩
  ·simp only [if_neg hr]; exact hany
theorem uK (x : Nat) (w : World) : ∃ r w', Sem.run Tryz.prog (callFunc 241 #[.float .f64 x]) w = .ok (.value (.float .f64 r)) w' ∧ Below w.heap.size w w' := by
 have he := run_callFunc_extern (P := Tryz.prog) (e := Extern.MathFloor.toIntegral "math.RoundToEven" .even) Tryz.func241 (by kernel_rfl) (by kernel_rfl) (by kernel_rfl) rfl #[.float .f64 x] w
 have e2 : Extern.MathFloor.toIntegral "math.RoundToEven" .even #[.float .f64 x] = (match FloatKind.f64.decode x with
  | .nan s t =>
   if FloatKind.f64.format.quiet t = t then pure (.float .f64 x) else do
   let kept ← choose (.extern "math.Floor,Ceil,Trunc,RoundToEven.signallingNaN kept" 2)
   pure (.float .f64 (if kept == 1 then x else FloatKind.f64.encode (.nan s (FloatKind.f64.format.quiet t))))
  | d => pure (.float .f64 (FloatKind.f64.encode (d.integral .even)))) := rfl
 rw [he, e2]
 cases hd : FloatKind.f64.decode x with
 | nan s t =>
  by_cases hq : FloatKind.f64.format.quiet t = t
  ·exact ⟨x, w, by simp [hq, go_sem, Result.andThen], Below.refl _ _⟩
  ·exact ⟨_, w.drew, by simp [hq, go_sem, Result.andThen, Question.forced]; rfl, (Below.refl _ _).drew⟩
 | infinity s => exact ⟨_, w, by simp [go_sem, Result.andThen]; rfl, Below.refl _ _⟩
 | number s m i => exact ⟨_, w, by simp [go_sem, Result.andThen]; rfl, Below.refl _ _⟩
theorem acp (x : Nat) (w : World) : Calls Tryz.prog 214 #[.float .f64 x] w fun e w' => ∃ n, e = .returned (.tuple #[.int .i64 n, .bool (pg x)]) ∧ Below w.heap.size w w' := by
 obtain ⟨r1, w1, h1, b1⟩ := sw 56 4621819117588971520 x w
 obtain ⟨r2, w2, h2, b2⟩ := uK r1 w1
 obtain ⟨n, w3, h3, b3⟩ := uY r2 w2
 have HB : Hid (Below w.heap.size w w3) := Lib.hid ((b1.trans (b2.mono b1.size)).trans (b3.mono (Nat.le_trans b1.size b2.size)))
 clear b1 b2 b3
 unfold pg
 cases c1 : xL x 0
 ·clear h1 h2 h3
  go_enter Tryz.func214, Tryz.ntmps214
  go_wp2
  go_returns
  exact ⟨0, rfl, by exact yd⟩
 ·cases c2 : xJ x 4652006429231887155
  ·clear h1 h2 h3
   go_enter Tryz.func214, Tryz.ntmps214
   go_wp2
   go_returns
   exact ⟨0, rfl, by exact yd⟩
  ·go_enter Tryz.func214, Tryz.ntmps214
   go_wp2
   go_returns
   exact ⟨n, rfl, HB.out⟩
theorem jr (x : Nat) (w : World) : Sem.run Tryz.prog (callFunc 128 #[.float .f64 x]) w = .ok (.value (.int .u64 x)) w := by
 kernel_rfl
theorem pY (x : Nat) (w : World) : Calls Tryz.prog 215 #[.float .f64 x] w fun e w' => e = .returned (.bool (rJ x)) ∧ w = w' := by
 have h1 := jr x w
 go_enter Tryz.func215, Tryz.ntmps215
 go_wp2
 go_ret
 exact ⟨rfl, rfl⟩
theorem tt (x : Nat) (tb sb : Bool) (w : World) (HT : Hid (Calls Tryz.prog 214 #[.float .f64 x] w fun e w' => ∃ n, e = .returned (.tuple #[.int .i64 n, .bool tb]) ∧ Below w.heap.size w w')) (HS : Hid (∀ w, Calls Tryz.prog 215 #[.float .f64 x] w fun e w' => e = .returned (.bool sb) ∧ w = w')) :
  Calls Tryz.prog 190 #[.float .f64 x] w fun e w' => e = .returned (.bool (tb && !sb)) ∧ Below w.heap.size w w' := by
 cases tb
 ·go_enter Tryz.func190, Tryz.ntmps190
  go_wp2_with (go_at_call 214; refine HT.out.mono ?_; rintro e w' ⟨nt, rfl, hbt⟩)
  go_ret
  exact ⟨rfl, hbt⟩
 ·go_enter Tryz.func190, Tryz.ntmps190
  go_wp2_with (first | (go_at_call 214; refine HT.out.mono ?_; rintro e w' ⟨nt, rfl, hbt⟩) | (go_at_call 215; refine (HS.out _).mono ?_; rintro e w' ⟨rfl, rfl⟩))
  go_ret
  exact ⟨rfl, hbt⟩
theorem kY (x : Nat) (w : World) : Calls Tryz.prog 190 #[.float .f64 x] w fun e w' => e = .returned (.bool (dE x)) ∧ Below w.heap.size w w' :=
 tt x (pg x) (rJ x) w (Lib.hid (acp x w)) (Lib.hid fun w => pY x w)
theorem nL (x : Nat) (w : World) : Calls Tryz.prog 189 #[.float .f64 x] w fun e w' => e = .returned (.bool (ec x)) ∧ w = w' := by
 unfold ec
 cases c1 : vL x 0
 ·go_enter Tryz.func189, Tryz.ntmps189
  go_wp2
  go_ret
  exact ⟨rfl, rfl⟩
 ·go_enter Tryz.func189, Tryz.ntmps189
  go_wp2
  go_ret
  exact ⟨rfl, rfl⟩
end
section
open Go.RowKit Go.Shelf
attribute [local go_sem] IsBlk.cell IsBlk.frozen
theorem vj (x : Int) (w : World) : Calls Tryz.prog 185 #[.int .i64 x] w fun e w' => e = .returned (.bool (bH 7 [x])) ∧ Below w.heap.size w w' := by
 go_enter Tryz.func185, Tryz.ntmps185
 go_wp2_with (go_at_call 133; refine (am 7 [x] _ _ _ _ _ _ (by simp) rfl rfl (by simp)).mono ?_; rintro e w' ⟨rfl, u, rfl⟩)
 go_ret
 exact ⟨rfl, by exact yd⟩
theorem ni (a : Option Addr) (cap : Nat) (zs : List Int) (w : World) (hm : zs.length ≤ 1000000) (hi : bQ w a zs) :
  Calls Tryz.prog 183 #[.slice a zs.length cap] w fun e w' => e = .returned (.bool (dB zs)) ∧ Below w.heap.size w w' := by
 have HC : Hid (Calls Tryz.prog 184 #[.slice a zs.length cap, .int .i64 8, .func (.func 185) #[] #[]] w fun e w' => e = .returned (.bool (dB zs)) ∧ Below w.heap.size w w') := Lib.hid (by
  have := pi a cap zs 8 185 #[] (fun p => bH 7 [p]) w (enters_of Tryz.func185 (by kernel_rfl) rfl) (by omega) hi fun x hx W hW => vj x W
  have e : dB zs = (decide ((zs.length : Int) ≤ 8) && zs.all fun p => bH 7 [p]) := by
   unfold dB
   rw [show decide (zs.length ≤ 8) = decide ((zs.length : Int) ≤ 8) from decide_eq_decide.2 (by omega)]
  rw [e]; exact this)
 clear hi
 go_enter Tryz.func183, Tryz.ntmps183
 go_wp2_with (refine (Up.run HC.out).mono ?_; rintro e w' ⟨rfl, u, rfl⟩)
 go_ret
 exact ⟨rfl, by exact yd⟩
theorem qx (s1 s2 : Value) (b1 b2 : Bool) (w : World) (H1 : Hid (∀ W, Below w.heap.size w W → Calls Tryz.prog 183 #[s1] W fun e w' => e = .returned (.bool b1) ∧ Below W.heap.size W w')) (H2 : Hid (∀ W, Below w.heap.size w W → Calls Tryz.prog 183 #[s2] W fun e w' => e = .returned (.bool b2) ∧ Below W.heap.size W w'))
  (o1 : ∃ a n c, s1 = .slice a n c) (o2 : ∃ a n c, s2 = .slice a n c) :
  Calls Tryz.prog 132 #[.agg #[s1, s2]] w fun e w' => e = .returned (.bool (b1 && b2)) ∧ Below w.heap.size w w' := by
 obtain ⟨a1, n1, c1, rfl⟩ := o1
 obtain ⟨a2, n2, c2, rfl⟩ := o2
 go_enter Tryz.func132, Tryz.ntmps132
 cases b1
 ·go_wp2_with ((with_reducible refine (Up.run (H1.out _ ?_)).mono ?_); (focus exact yd); rintro e w' ⟨rfl, u, rfl⟩)
  go_ret
  exact ⟨rfl, by exact yd⟩
 ·go_wp2_with (first | ((with_reducible refine (Up.run (H1.out _ ?_)).mono ?_); (focus exact yd); rintro e w' ⟨rfl, u, rfl⟩) | ((with_reducible refine (Up.run (H2.out _ ?_)).mono ?_); (focus exact yd); rintro e w' ⟨rfl, u2, rfl⟩))
  go_ret
  exact ⟨rfl, by exact yd⟩
theorem o0 (a1 a2 : Option Addr) (c1 c2 : Nat) (r1 r2 : List Int) (w : World) (m1 : r1.length ≤ 1000000) (m2 : r2.length ≤ 1000000) (h1 : bQ w a1 r1) (h2 : bQ w a2 r2) :
  Calls Tryz.prog 132 #[.agg #[.slice a1 r1.length c1, .slice a2 r2.length c2]] w fun e w' => e = .returned (.bool (dB r1 && dB r2)) ∧ Below w.heap.size w w' :=
 qx _ _ _ _ w (Lib.hid fun W hW => ni a1 c1 r1 W m1 (bk.below h1 hW (Nat.le_refl _))) (Lib.hid fun W hW => ni a2 c2 r2 W m2 (bk.below h2 hW (Nat.le_refl _))) ⟨_, _, _, rfl⟩ ⟨_, _, _, rfl⟩
theorem tc (b : Bus) (w : World) : Calls Tryz.prog 139 #[iD b] w fun e w' => e = .returned (.bool (fK b)) ∧ Below w.heap.size w w' := by
 obtain ⟨s, l⟩ := b
 unfold iD fK
 simp only [dm]
 obtain ⟨T0, hT0⟩ : ∃ x, bH 255 [s] = x := ⟨_, rfl⟩
 have H0 := Lib.hid hT0
 obtain ⟨T1, hT1⟩ : ∃ x, bH 9999 [l] = x := ⟨_, rfl⟩
 have H1 := Lib.hid hT1
 rw [hT0, hT1]
 clear hT0 hT1
 go_enter Tryz.func139, Tryz.ntmps139
 cases T0
 ·go_wp2_with (first | (go_at_call 133; (with_reducible refine (am 255 [s] _ _ _ _ _ _ ?_ ?_ ?_ ?_).mono ?_); (focus (simp; done)); (focus rfl); (focus rfl); (focus (simp; done)); rw [H0.out]; rintro e w' ⟨rfl, u, rfl⟩) | (go_at_call 140; (with_reducible refine (av [l] _ _ _ _ _ _ ?_ ?_ ?_ ?_).mono ?_); (focus (simp; done)); (focus rfl); (focus rfl); (focus (simp; done)); rw [H1.out]; rintro e w' ⟨rfl, u, rfl⟩))
  go_ret
  exact ⟨rfl, by exact yd⟩
 ·cases T1
  ·go_wp2_with (first | (go_at_call 133; (with_reducible refine (am 255 [s] _ _ _ _ _ _ ?_ ?_ ?_ ?_).mono ?_); (focus (simp; done)); (focus rfl); (focus rfl); (focus (simp; done)); rw [H0.out]; rintro e w' ⟨rfl, u, rfl⟩) | (go_at_call 140; (with_reducible refine (av [l] _ _ _ _ _ _ ?_ ?_ ?_ ?_).mono ?_); (focus (simp; done)); (focus rfl); (focus rfl); (focus (simp; done)); rw [H1.out]; rintro e w' ⟨rfl, u, rfl⟩))
   go_ret
   exact ⟨rfl, by exact yd⟩
  ·go_wp2_with (first | (go_at_call 133; (with_reducible refine (am 255 [s] _ _ _ _ _ _ ?_ ?_ ?_ ?_).mono ?_); (focus (simp; done)); (focus rfl); (focus rfl); (focus (simp; done)); rw [H0.out]; rintro e w' ⟨rfl, u, rfl⟩) | (go_at_call 140; (with_reducible refine (av [l] _ _ _ _ _ _ ?_ ?_ ?_ ?_).mono ?_); (focus (simp; done)); (focus rfl); (focus rfl); (focus (simp; done)); rw [H1.out]; rintro e w' ⟨rfl, u, rfl⟩))
   go_ret
   exact ⟨rfl, by exact yd⟩
theorem qD (r : Rl) (w : World) : Calls Tryz.prog 137 #[eA r] w fun e w' => e = .returned (.bool (iL r)) ∧ Below w.heap.size w w' := by
 obtain ⟨a1, a2, a3, a4, a5, a6, a7, a8, a9, a10, a11⟩ := r
 unfold eA iL
 simp only [dq]
 obtain ⟨T0, hT0⟩ : ∃ x, bH 255 [a1, a2, a3, a4] = x := ⟨_, rfl⟩
 have H0 := Lib.hid hT0
 obtain ⟨T1, hT1⟩ : ∃ x, bH 9999 [a5, a6, a7, a8, a9, a10] = x := ⟨_, rfl⟩
 have H1 := Lib.hid hT1
 obtain ⟨T2, hT2⟩ : ∃ x, bH 2147483647 [a11] = x := ⟨_, rfl⟩
 have H2 := Lib.hid hT2
 rw [hT0, hT1, hT2]
 clear hT0 hT1 hT2
 go_enter Tryz.func137, Tryz.ntmps137
 cases T0
 ·go_wp2_with (first | (go_at_call 133; (with_reducible refine (am 255 [a1, a2, a3, a4] _ _ _ _ _ _ ?_ ?_ ?_ ?_).mono ?_); (focus (simp; done)); (focus rfl); (focus rfl); (focus (simp; done)); rw [H0.out]; rintro e w' ⟨rfl, u, rfl⟩) | (go_at_call 140; (with_reducible refine (av [a5, a6, a7, a8, a9, a10] _ _ _ _ _ _ ?_ ?_ ?_ ?_).mono ?_); (focus (simp; done)); (focus rfl); (focus rfl); (focus (simp; done)); rw [H1.out]; rintro e w' ⟨rfl, u, rfl⟩) | (go_at_call 133; (with_reducible refine (am 2147483647 [a11] _ _ _ _ _ _ ?_ ?_ ?_ ?_).mono ?_); (focus (simp; done)); (focus rfl); (focus rfl); (focus (simp; done)); rw [H2.out]; rintro e w' ⟨rfl, u, rfl⟩))
  go_ret
  exact ⟨rfl, by exact yd⟩
 ·cases T1
  ·go_wp2_with (first | (go_at_call 133; (with_reducible refine (am 255 [a1, a2, a3, a4] _ _ _ _ _ _ ?_ ?_ ?_ ?_).mono ?_); (focus (simp; done)); (focus rfl); (focus rfl); (focus (simp; done)); rw [H0.out]; rintro e w' ⟨rfl, u, rfl⟩) | (go_at_call 140; (with_reducible refine (av [a5, a6, a7, a8, a9, a10] _ _ _ _ _ _ ?_ ?_ ?_ ?_).mono ?_); (focus (simp; done)); (focus rfl); (focus rfl); (focus (simp; done)); rw [H1.out]; rintro e w' ⟨rfl, u, rfl⟩) | (go_at_call 133; (with_reducible refine (am 2147483647 [a11] _ _ _ _ _ _ ?_ ?_ ?_ ?_).mono ?_); (focus (simp; done)); (focus rfl); (focus rfl); (focus (simp; done)); rw [H2.out]; rintro e w' ⟨rfl, u, rfl⟩))
   go_ret
   exact ⟨rfl, by exact yd⟩
  ·cases T2
   ·go_wp2_with (first | (go_at_call 133; (with_reducible refine (am 255 [a1, a2, a3, a4] _ _ _ _ _ _ ?_ ?_ ?_ ?_).mono ?_); (focus (simp; done)); (focus rfl); (focus rfl); (focus (simp; done)); rw [H0.out]; rintro e w' ⟨rfl, u, rfl⟩) | (go_at_call 140; (with_reducible refine (av [a5, a6, a7, a8, a9, a10] _ _ _ _ _ _ ?_ ?_ ?_ ?_).mono ?_); (focus (simp; done)); (focus rfl); (focus rfl); (focus (simp; done)); rw [H1.out]; rintro e w' ⟨rfl, u, rfl⟩) | (go_at_call 133; (with_reducible refine (am 2147483647 [a11] _ _ _ _ _ _ ?_ ?_ ?_ ?_).mono ?_); (focus (simp; done)); (focus rfl); (focus rfl); (focus (simp; done)); rw [H2.out]; rintro e w' ⟨rfl, u, rfl⟩))
    go_ret
    exact ⟨rfl, by exact yd⟩
   ·go_wp2_with (first | (go_at_call 133; (with_reducible refine (am 255 [a1, a2, a3, a4] _ _ _ _ _ _ ?_ ?_ ?_ ?_).mono ?_); (focus (simp; done)); (focus rfl); (focus rfl); (focus (simp; done)); rw [H0.out]; rintro e w' ⟨rfl, u, rfl⟩) | (go_at_call 140; (with_reducible refine (av [a5, a6, a7, a8, a9, a10] _ _ _ _ _ _ ?_ ?_ ?_ ?_).mono ?_); (focus (simp; done)); (focus rfl); (focus rfl); (focus (simp; done)); rw [H1.out]; rintro e w' ⟨rfl, u, rfl⟩) | (go_at_call 133; (with_reducible refine (am 2147483647 [a11] _ _ _ _ _ _ ?_ ?_ ?_ ?_).mono ?_); (focus (simp; done)); (focus rfl); (focus rfl); (focus (simp; done)); rw [H2.out]; rintro e w' ⟨rfl, u, rfl⟩))
    go_ret
    exact ⟨rfl, by exact yd⟩
theorem vi (ph mon mof : Int) (on off dl ex : Nat) (T0 T1 T2 T3 T4 T5 : Bool) (w : World) (H0 : Hid (bH 7 [ph] = T0)) (H5 : Hid (bH 9999 [mon, mof] = T5))
  (H1 : Hid (∀ w, Calls Tryz.prog 189 #[.float .f64 on] w fun e w' => e = .returned (.bool T1) ∧ w = w')) (H2 : Hid (∀ w, Calls Tryz.prog 189 #[.float .f64 off] w fun e w' => e = .returned (.bool T2) ∧ w = w'))
  (H3 : Hid (∀ w, Calls Tryz.prog 190 #[.float .f64 dl] w fun e w' => e = .returned (.bool T3) ∧ Below w.heap.size w w')) (H4 : Hid (∀ w, Calls Tryz.prog 190 #[.float .f64 ex] w fun e w' => e = .returned (.bool T4) ∧ Below w.heap.size w w')) :
  Calls Tryz.prog 135 #[.agg #[.int .i64 ph, .float .f64 on, .float .f64 off, .float .f64 dl, .float .f64 ex, .int .i64 mon, .int .i64 mof]] w fun e w' => e = .returned (.bool (T0 && (T1 && (T2 && (T3 && (T4 && T5)))))) ∧ Below w.heap.size w w' := by
 go_enter Tryz.func135, Tryz.ntmps135
 cases T0
 ·go_wp2_with (first | (go_at_call 133; (with_reducible refine (am 7 [ph] _ _ _ _ _ _ ?_ ?_ ?_ ?_).mono ?_); (focus (simp; done)); (focus rfl); (focus rfl); (focus (simp; done)); rw [H0.out]; rintro e w' ⟨rfl, u, rfl⟩) | ((with_reducible refine (H1.out _).mono ?_); rintro e w' ⟨rfl, rfl⟩) | ((with_reducible refine (H2.out _).mono ?_); rintro e w' ⟨rfl, rfl⟩) | ((with_reducible refine (Up.run (H3.out _)).mono ?_); rintro e w' ⟨rfl, u3, rfl⟩) | ((with_reducible refine (Up.run (H4.out _)).mono ?_); rintro e w' ⟨rfl, u4, rfl⟩) | (go_at_call 140; (with_reducible refine (av [mon, mof] _ _ _ _ _ _ ?_ ?_ ?_ ?_).mono ?_); (focus (simp; done)); (focus rfl); (focus rfl); (focus (simp; done)); rw [H5.out]; rintro e w' ⟨rfl, u, rfl⟩))
  go_ret
  exact ⟨rfl, by exact yd⟩
 ·cases T1
  ·go_wp2_with (first | (go_at_call 133; (with_reducible refine (am 7 [ph] _ _ _ _ _ _ ?_ ?_ ?_ ?_).mono ?_); (focus (simp; done)); (focus rfl); (focus rfl); (focus (simp; done)); rw [H0.out]; rintro e w' ⟨rfl, u, rfl⟩) | ((with_reducible refine (H1.out _).mono ?_); rintro e w' ⟨rfl, rfl⟩) | ((with_reducible refine (H2.out _).mono ?_); rintro e w' ⟨rfl, rfl⟩) | ((with_reducible refine (Up.run (H3.out _)).mono ?_); rintro e w' ⟨rfl, u3, rfl⟩) | ((with_reducible refine (Up.run (H4.out _)).mono ?_); rintro e w' ⟨rfl, u4, rfl⟩) | (go_at_call 140; (with_reducible refine (av [mon, mof] _ _ _ _ _ _ ?_ ?_ ?_ ?_).mono ?_); (focus (simp; done)); (focus rfl); (focus rfl); (focus (simp; done)); rw [H5.out]; rintro e w' ⟨rfl, u, rfl⟩))
   go_ret
   exact ⟨rfl, by exact yd⟩
  ·cases T2
   ·go_wp2_with (first | (go_at_call 133; (with_reducible refine (am 7 [ph] _ _ _ _ _ _ ?_ ?_ ?_ ?_).mono ?_); (focus (simp; done)); (focus rfl); (focus rfl); (focus (simp; done)); rw [H0.out]; rintro e w' ⟨rfl, u, rfl⟩) | ((with_reducible refine (H1.out _).mono ?_); rintro e w' ⟨rfl, rfl⟩) | ((with_reducible refine (H2.out _).mono ?_); rintro e w' ⟨rfl, rfl⟩) | ((with_reducible refine (Up.run (H3.out _)).mono ?_); rintro e w' ⟨rfl, u3, rfl⟩) | ((with_reducible refine (Up.run (H4.out _)).mono ?_); rintro e w' ⟨rfl, u4, rfl⟩) | (go_at_call 140; (with_reducible refine (av [mon, mof] _ _ _ _ _ _ ?_ ?_ ?_ ?_).mono ?_); (focus (simp; done)); (focus rfl); (focus rfl); (focus (simp; done)); rw [H5.out]; rintro e w' ⟨rfl, u, rfl⟩))
    go_ret
    exact ⟨rfl, by exact yd⟩
   ·cases T3
    ·go_wp2_with (first | (go_at_call 133; (with_reducible refine (am 7 [ph] _ _ _ _ _ _ ?_ ?_ ?_ ?_).mono ?_); (focus (simp; done)); (focus rfl); (focus rfl); (focus (simp; done)); rw [H0.out]; rintro e w' ⟨rfl, u, rfl⟩) | ((with_reducible refine (H1.out _).mono ?_); rintro e w' ⟨rfl, rfl⟩) | ((with_reducible refine (H2.out _).mono ?_); rintro e w' ⟨rfl, rfl⟩) | ((with_reducible refine (Up.run (H3.out _)).mono ?_); rintro e w' ⟨rfl, u3, rfl⟩) | ((with_reducible refine (Up.run (H4.out _)).mono ?_); rintro e w' ⟨rfl, u4, rfl⟩) | (go_at_call 140; (with_reducible refine (av [mon, mof] _ _ _ _ _ _ ?_ ?_ ?_ ?_).mono ?_); (focus (simp; done)); (focus rfl); (focus rfl); (focus (simp; done)); rw [H5.out]; rintro e w' ⟨rfl, u, rfl⟩))
     go_ret
     exact ⟨rfl, by exact yd⟩
    ·cases T4
     ·go_wp2_with (first | (go_at_call 133; (with_reducible refine (am 7 [ph] _ _ _ _ _ _ ?_ ?_ ?_ ?_).mono ?_); (focus (simp; done)); (focus rfl); (focus rfl); (focus (simp; done)); rw [H0.out]; rintro e w' ⟨rfl, u, rfl⟩) | ((with_reducible refine (H1.out _).mono ?_); rintro e w' ⟨rfl, rfl⟩) | ((with_reducible refine (H2.out _).mono ?_); rintro e w' ⟨rfl, rfl⟩) | ((with_reducible refine (Up.run (H3.out _)).mono ?_); rintro e w' ⟨rfl, u3, rfl⟩) | ((with_reducible refine (Up.run (H4.out _)).mono ?_); rintro e w' ⟨rfl, u4, rfl⟩) | (go_at_call 140; (with_reducible refine (av [mon, mof] _ _ _ _ _ _ ?_ ?_ ?_ ?_).mono ?_); (focus (simp; done)); (focus rfl); (focus rfl); (focus (simp; done)); rw [H5.out]; rintro e w' ⟨rfl, u, rfl⟩))
      go_ret
      exact ⟨rfl, by exact yd⟩
     ·cases T5
      ·go_wp2_with (first | (go_at_call 133; (with_reducible refine (am 7 [ph] _ _ _ _ _ _ ?_ ?_ ?_ ?_).mono ?_); (focus (simp; done)); (focus rfl); (focus rfl); (focus (simp; done)); rw [H0.out]; rintro e w' ⟨rfl, u, rfl⟩) | ((with_reducible refine (H1.out _).mono ?_); rintro e w' ⟨rfl, rfl⟩) | ((with_reducible refine (H2.out _).mono ?_); rintro e w' ⟨rfl, rfl⟩) | ((with_reducible refine (Up.run (H3.out _)).mono ?_); rintro e w' ⟨rfl, u3, rfl⟩) | ((with_reducible refine (Up.run (H4.out _)).mono ?_); rintro e w' ⟨rfl, u4, rfl⟩) | (go_at_call 140; (with_reducible refine (av [mon, mof] _ _ _ _ _ _ ?_ ?_ ?_ ?_).mono ?_); (focus (simp; done)); (focus rfl); (focus rfl); (focus (simp; done)); rw [H5.out]; rintro e w' ⟨rfl, u, rfl⟩))
       go_ret
       exact ⟨rfl, by exact yd⟩
      ·go_wp2_with (first | (go_at_call 133; (with_reducible refine (am 7 [ph] _ _ _ _ _ _ ?_ ?_ ?_ ?_).mono ?_); (focus (simp; done)); (focus rfl); (focus rfl); (focus (simp; done)); rw [H0.out]; rintro e w' ⟨rfl, u, rfl⟩) | ((with_reducible refine (H1.out _).mono ?_); rintro e w' ⟨rfl, rfl⟩) | ((with_reducible refine (H2.out _).mono ?_); rintro e w' ⟨rfl, rfl⟩) | ((with_reducible refine (Up.run (H3.out _)).mono ?_); rintro e w' ⟨rfl, u3, rfl⟩) | ((with_reducible refine (Up.run (H4.out _)).mono ?_); rintro e w' ⟨rfl, u4, rfl⟩) | (go_at_call 140; (with_reducible refine (av [mon, mof] _ _ _ _ _ _ ?_ ?_ ?_ ?_).mono ?_); (focus (simp; done)); (focus rfl); (focus rfl); (focus (simp; done)); rw [H5.out]; rintro e w' ⟨rfl, u, rfl⟩))
       go_ret
       exact ⟨rfl, by exact yd⟩
theorem sB (d : Det) (w : World) : Calls Tryz.prog 135 #[jY d] w fun e w' => e = .returned (.bool (eU d)) ∧ Below w.heap.size w w' :=
 vi d.ph d.mon d.mof d.on d.off d.dl d.ex (bH 7 [d.ph]) (ec d.on) (ec d.off) (dE d.dl) (dE d.ex) (bH 9999 [d.mon, d.mof]) w (Lib.hid rfl) (Lib.hid rfl) (Lib.hid fun w => nL _ w) (Lib.hid fun w => nL _ w) (Lib.hid fun w => kY _ w) (Lib.hid fun w => kY _ w)
end
section
open Go.RowKit Go.Shelf
attribute [local go_sem] IsBlk.cell IsBlk.frozen
def mE (H : Nat → Nat → Option Addr × Nat) (gr : List (List Int × List Int)) : List ((Value × Value) × (List Int × List Int)) :=
 (List.range gr.length).map fun i => ((.slice (H i 0).1 (ak gr i 0).length (H i 0).2, .slice (H i 1).1 (ak gr i 1).length (H i 1).2), gr.getD i ([], []))
theorem jp (H : Nat → Nat → Option Addr × Nat) (gr : List (List Int × List Int)) : (mE H gr).length = gr.length := by simp [mE]
theorem qg {gr : List (List Int × List Int)} {i : Nat} (h : i < gr.length) : ak gr i 0 = (gr.getD i ([], [])).1 ∧ ak gr i 1 = (gr.getD i ([], [])).2 := by
 unfold ak
 rw [List.getElem?_eq_getElem h, List.getD_eq_getElem?_getD, List.getElem?_eq_getElem h]
 exact ⟨rfl, rfl⟩
theorem tk (H : Nat → Nat → Option Addr × Nat) (gr : List (List Int × List Int)) (f : List Int × List Int → Bool) : ((mE H gr).all fun x => f x.2) = gr.all f := by
 unfold mE
 rw [List.all_map]
 have : gr = (List.range gr.length).map fun i => gr.getD i ([], []) := by
  refine List.ext_getElem (by simp) fun i h1 h2 => ?_
  simp [List.getD_eq_getElem?_getD, List.getElem?_eq_getElem h1]
 conv => rhs; rw [this]
 rw [List.all_map]
 rfl
theorem oH {w : World} {T : Array Value} {t : Tab} (hT : ag w T t) : ∃ a cap, T[104]? = some (.slice a t.gr.length cap) ∧ ∀ w', Below w.heap.size w w' → Calls Tryz.prog 131 #[.slice a t.gr.length cap, .int .i64 4, .func (.func 132) #[] #[]] w' fun e w'' => e = .returned (.bool (decide (t.gr.length ≤ 4) && t.gr.all gC)) ∧ Below w'.heap.size w' w'' := by
 obtain ⟨gv, d, r, b, hTe, hI⟩ := hT
 obtain ⟨ga, gcap, H, rfl, hrow, hints⟩ := hI.gr
 have t104 : T[104]? = some (.slice ga t.gr.length gcap) := by rw [hTe, ab _ _ _ (by omega)]; rfl
 refine ⟨ga, gcap, t104, fun w' hb => ?_⟩
 have lg := hI.lg
 have lr := hI.lr
 have hk : bB w' ga 2 (mE H t.gr).length (aF uB (mE H t.gr)) := by
  rw [jp]
  refine (hrow.below hb (Nat.le_refl _)).congr fun i hi j hj => ?_
  unfold aF mE
  rw [List.getElem?_map, List.getElem?_range hi]
  rcases (show j = 0 ∨ j = 1 by omega) with rfl | rfl <;> rfl
 have := vG ga gcap (mE H t.gr) 4 132 #[] (fun x => gC x.2) w' (enters_of Tryz.func132 (by kernel_rfl) rfl) (by rw [jp]; omega) hk fun x hx W hW => by
  obtain ⟨i, hi, rfl⟩ := List.mem_map.1 hx
  rw [List.mem_range] at hi
  have e := qg hi
  have h0 : bQ W (H i 0).1 (ak t.gr i 0) := bk.below (hints i hi 0 (by omega)) (hb.trans (hW.mono hb.size)) (Nat.le_refl _)
  have h1 : bQ W (H i 1).1 (ak t.gr i 1) := bk.below (hints i hi 1 (by omega)) (hb.trans (hW.mono hb.size)) (Nat.le_refl _)
  have hc := o0 (H i 0).1 (H i 1).1 (H i 0).2 (H i 1).2 (ak t.gr i 0) (ak t.gr i 1) W (by have := lr i 0; omega) (by have := lr i 1; omega) h0 h1
  show Calls Tryz.prog 132 #[.agg #[.slice (H i 0).1 (ak t.gr i 0).length (H i 0).2, .slice (H i 1).1 (ak t.gr i 1).length (H i 1).2]] W fun e W' => e = .returned (.bool (gC (t.gr.getD i ([], [])))) ∧ Below W.heap.size W W'
  unfold gC
  rw [← e.1, ← e.2]
  exact hc
 rw [jp, tk] at this
 rw [show decide (t.gr.length ≤ 4) = decide ((t.gr.length : Int) ≤ 4) from decide_eq_decide.2 (by omega)]
 exact this
theorem uh {w : World} {T : Array Value} {t : Tab} (hT : ag w T t) : ∃ a cap, T[113]? = some (.slice a t.de.length cap) ∧ ∀ w', Below w.heap.size w w' → Calls Tryz.prog 134 #[.slice a t.de.length cap, .int .i64 16, .func (.func 135) #[] #[]] w' fun e w'' => e = .returned (.bool (decide (t.de.length ≤ 16) && t.de.all eU)) ∧ Below w'.heap.size w' w'' := by
 obtain ⟨gv, d, r, b, hTe, hI⟩ := hT
 obtain ⟨a, cap, rfl, hrow⟩ := hI.de
 have ld := hI.ld
 refine ⟨a, cap, by rw [hTe, ab _ _ _ (by omega)]; rfl, fun w' hb => ?_⟩
 have := wI a cap t.de 16 135 #[] eU w' (enters_of Tryz.func135 (by kernel_rfl) rfl) (by omega) (hrow.below hb (Nat.le_refl _)) fun x hx W hW => sB x W
 rw [show decide (t.de.length ≤ 16) = decide ((t.de.length : Int) ≤ 16) from decide_eq_decide.2 (by omega)]
 exact this
theorem wj {w : World} {T : Array Value} {t : Tab} (hT : ag w T t) : ∃ a cap, T[114]? = some (.slice a t.ra.length cap) ∧ ∀ w', Below w.heap.size w w' → Calls Tryz.prog 136 #[.slice a t.ra.length cap, .int .i64 4, .func (.func 137) #[] #[]] w' fun e w'' => e = .returned (.bool (decide (t.ra.length ≤ 4) && t.ra.all iL)) ∧ Below w'.heap.size w' w'' := by
 obtain ⟨gv, d, r, b, hTe, hI⟩ := hT
 obtain ⟨a, cap, rfl, hrow⟩ := hI.ra
 have ld := hI.la
 refine ⟨a, cap, by rw [hTe, ab _ _ _ (by omega)]; rfl, fun w' hb => ?_⟩
 have := vF a cap t.ra 4 137 #[] iL w' (enters_of Tryz.func137 (by kernel_rfl) rfl) (by omega) (hrow.below hb (Nat.le_refl _)) fun x hx W hW => qD x W
 rw [show decide (t.ra.length ≤ 4) = decide ((t.ra.length : Int) ≤ 4) from decide_eq_decide.2 (by omega)]
 exact this
theorem vW {w : World} {T : Array Value} {t : Tab} (hT : ag w T t) : ∃ a cap, T[115]? = some (.slice a t.bu.length cap) ∧ ∀ w', Below w.heap.size w w' → Calls Tryz.prog 138 #[.slice a t.bu.length cap, .int .i64 4, .func (.func 139) #[] #[]] w' fun e w'' => e = .returned (.bool (decide (t.bu.length ≤ 4) && t.bu.all fK)) ∧ Below w'.heap.size w' w'' := by
 obtain ⟨gv, d, r, b, hTe, hI⟩ := hT
 obtain ⟨a, cap, rfl, hrow⟩ := hI.bu
 have ld := hI.lb
 refine ⟨a, cap, by rw [hTe, ab _ _ _ (by omega)]; rfl, fun w' hb => ?_⟩
 have := wW a cap t.bu 4 139 #[] fK w' (enters_of Tryz.func139 (by kernel_rfl) rfl) (by omega) (hrow.below hb (Nat.le_refl _)) fun x hx W hW => tc x W
 rw [show decide (t.bu.length ≤ 4) = decide ((t.bu.length : Int) ≤ 4) from decide_eq_decide.2 (by omega)]
 exact this
theorem wM {w : World} {T : Array Value} {t : Tab} (hT : ag w T t) {b : Nat} (iB : IsBlk w b T 34) : ∀ w', Below w.heap.size w w' → Calls Tryz.prog 129 #[.slice (some ⟨b, 0, none⟩) 8 8, .int .i64 8, .func (.func 130) #[] #[]] w' fun e w'' => e = .returned (.bool ((List.range 8).all fun p => gq (t.ph p))) ∧ Below w'.heap.size w' w'' := by
 intro w' hb
 have hlt : b < w.heap.size := (Array.getElem?_eq_some_iff.1 iB.out).1
 have hb' : w'.heap[b]? = some (.cells T 34) := (hb.block _ hlt).trans iB.out
 have hk : bB w' (some ⟨b, 0, none⟩) 13 ((List.range 8).map t.ph).length (aF cy ((List.range 8).map t.ph)) := .inr ⟨b, 0, rfl, Nat.lt_of_lt_of_le hlt hb.size, fun i hi j hj => by
  have hi8 : i < 8 := by simpa using hi
  have hc := hT.phx i j _ hi8 hj rfl
  rw [Nat.zero_add, aV hb' _ hc]
  unfold aF
  rw [List.getElem?_map, List.getElem?_range hi8]
  simp [List.getD_eq_getElem?_getD]⟩
 have := vO (some ⟨b, 0, none⟩) 8 ((List.range 8).map t.ph) 8 130 #[] gq w' (enters_of Tryz.func130 (by kernel_rfl) rfl) (by simp) hk fun x hx W hW => oM x W
 rw [List.all_map] at this
 exact this
theorem jA {w : World} {b o : Nat} {C : Array Value} {t : TypeId} (h : w.heap[b]? = some (.cells C t)) (zs : List Int) (hc : ∀ i, i < zs.length → C[o + i]? = some (.int .i64 (zs.getD i 0))) : bQ w (some ⟨b, o, none⟩) zs :=
 .inr ⟨b, o, rfl, (Array.getElem?_eq_some_iff.1 h).1, fun i hi => aV h _ (hc i hi)⟩
theorem wC {w : World} {T : Array Value} {t : Tab} (hT : ag w T t) {b : Nat} (iB : IsBlk w b T 34) : ∀ w', Below w.heap.size w w' → Calls Tryz.prog 133 #[.int .i64 255, .slice (some ⟨b, 105, none⟩) 8 8] w' fun e w'' => e = .returned (.bool (bH 255 ((List.range 8).map t.cf))) ∧ Below w'.heap.size w' w'' := by
 intro w' hb
 have hb' : w'.heap[b]? = some (.cells T 34) := (hb.block _ (Array.getElem?_eq_some_iff.1 iB.out).1).trans iB.out
 exact eY 255 (some ⟨b, 105, none⟩) 8 ((List.range 8).map t.cf) w' (by simp) (jA hb' _ fun i hi => by
  have hi8 : i < 8 := by simpa using hi
  rw [hT.cf i hi8]
  simp [List.getD_eq_getElem?_getD, List.getElem?_range hi8])
theorem aeA {w : World} {T : Array Value} {t : Tab} (hT : ag w T t) {b : Nat} (iB : IsBlk w b T 34) : ∀ w', Below w.heap.size w w' → Calls Tryz.prog 133 #[.int .i64 2, .slice (some ⟨b, 121, none⟩) 8 8] w' fun e w'' => e = .returned (.bool (bH 2 ((List.range 8).map t.fl))) ∧ Below w'.heap.size w' w'' := by
 intro w' hb
 have hb' : w'.heap[b]? = some (.cells T 34) := (hb.block _ (Array.getElem?_eq_some_iff.1 iB.out).1).trans iB.out
 exact eY 2 (some ⟨b, 121, none⟩) 8 ((List.range 8).map t.fl) w' (by simp) (jA hb' _ fun i hi => by
  have hi8 : i < 8 := by simpa using hi
  rw [hT.fl i hi8]
  simp [List.getD_eq_getElem?_getD, List.getElem?_range hi8])
end
section
open Go.RowKit Go.Shelf
attribute [local go_sem] IsBlk.cell IsBlk.frozen
theorem va (T : Array Value) [hz : Sz131 T] (ga da ra ba : Option Addr) (gn gc dn dc rn rc bn bc : Nat) (x0 x1 x2 x3 x4 x5 x6 : Int) (T0 T1 T2 T3 T4 T5 T6 T7 T8 : Bool) (w : World)
  (t104 : T[104]? = some (.slice ga gn gc)) (t113 : T[113]? = some (.slice da dn dc)) (t114 : T[114]? = some (.slice ra rn rc)) (t115 : T[115]? = some (.slice ba bn bc))
  (t116 : T[116]? = some (.int .i64 x0)) (t117 : T[117]? = some (.int .i64 x1)) (t118 : T[118]? = some (.int .i64 x2)) (t119 : T[119]? = some (.int .i64 x3)) (t120 : T[120]? = some (.int .i64 x4)) (t129 : T[129]? = some (.int .i64 x5)) (t130 : T[130]? = some (.int .i64 x6))
  (H6 : Hid (bH 9999 [x0, x1, x2, x3, x4] = T6)) (H8 : Hid (bH 2147483647 [x5, x6] = T8))
  (H0 : Hid (∀ w', Below (w.heap.size + 1) (w.alloc (.cells T 34)) w' → Calls Tryz.prog 129 #[.slice (some ⟨w.heap.size, 0, none⟩) 8 8, .int .i64 8, .func (.func 130) #[] #[]] w' fun e w'' => e = .returned (.bool T0) ∧ Below w'.heap.size w' w''))
  (H1 : Hid (∀ w', Below (w.heap.size + 1) (w.alloc (.cells T 34)) w' → Calls Tryz.prog 131 #[.slice ga gn gc, .int .i64 4, .func (.func 132) #[] #[]] w' fun e w'' => e = .returned (.bool T1) ∧ Below w'.heap.size w' w''))
  (H2 : Hid (∀ w', Below (w.heap.size + 1) (w.alloc (.cells T 34)) w' → Calls Tryz.prog 133 #[.int .i64 255, .slice (some ⟨w.heap.size, 105, none⟩) 8 8] w' fun e w'' => e = .returned (.bool T2) ∧ Below w'.heap.size w' w''))
  (H3 : Hid (∀ w', Below (w.heap.size + 1) (w.alloc (.cells T 34)) w' → Calls Tryz.prog 134 #[.slice da dn dc, .int .i64 16, .func (.func 135) #[] #[]] w' fun e w'' => e = .returned (.bool T3) ∧ Below w'.heap.size w' w''))
  (H4 : Hid (∀ w', Below (w.heap.size + 1) (w.alloc (.cells T 34)) w' → Calls Tryz.prog 136 #[.slice ra rn rc, .int .i64 4, .func (.func 137) #[] #[]] w' fun e w'' => e = .returned (.bool T4) ∧ Below w'.heap.size w' w''))
  (H5 : Hid (∀ w', Below (w.heap.size + 1) (w.alloc (.cells T 34)) w' → Calls Tryz.prog 138 #[.slice ba bn bc, .int .i64 4, .func (.func 139) #[] #[]] w' fun e w'' => e = .returned (.bool T5) ∧ Below w'.heap.size w' w''))
  (H7 : Hid (∀ w', Below (w.heap.size + 1) (w.alloc (.cells T 34)) w' → Calls Tryz.prog 133 #[.int .i64 2, .slice (some ⟨w.heap.size, 121, none⟩) 8 8] w' fun e w'' => e = .returned (.bool T7) ∧ Below w'.heap.size w' w'')) :
  Calls Tryz.prog 49 #[.agg T] w fun e w' => e = .returned (.bool ((((((((T0 && T1) && T2) && T3) && T4) && T5) && T6) && T7) && T8)) ∧ Below w.heap.size w w' := by
 go_enter Tryz.func49, Tryz.ntmps49
 cases T0
 ·go_wp2_with (first | (go_at_call 129; (with_reducible refine (Up.run (H0.out _ ?_)).mono ?_); (focus exact yd); rintro e w' ⟨rfl, u0, rfl⟩) | (go_at_call 131; (with_reducible refine (Up.run (H1.out _ ?_)).mono ?_); (focus exact yd); rintro e w' ⟨rfl, u1, rfl⟩) | (go_at_call 133; (with_reducible refine (Up.run (H2.out _ ?_)).mono ?_); (focus exact yd); rintro e w' ⟨rfl, u2, rfl⟩) | (go_at_call 134; (with_reducible refine (Up.run (H3.out _ ?_)).mono ?_); (focus exact yd); rintro e w' ⟨rfl, u3, rfl⟩) | (go_at_call 136; (with_reducible refine (Up.run (H4.out _ ?_)).mono ?_); (focus exact yd); rintro e w' ⟨rfl, u4, rfl⟩) | (go_at_call 138; (with_reducible refine (Up.run (H5.out _ ?_)).mono ?_); (focus exact yd); rintro e w' ⟨rfl, u5, rfl⟩) | (go_at_call 133; (with_reducible refine (Up.run (H7.out _ ?_)).mono ?_); (focus exact yd); rintro e w' ⟨rfl, u7, rfl⟩) | (go_at_call 140; (with_reducible refine (av [x0, x1, x2, x3, x4] _ _ _ _ _ _ ?_ ?_ ?_ ?_).mono ?_); (focus (simp; done)); (focus rfl); (focus rfl); (focus (simp; done)); rw [H6.out]; rintro e w' ⟨rfl, u, rfl⟩) | (go_at_call 133; (with_reducible refine (am 2147483647 [x5, x6] _ _ _ _ _ _ ?_ ?_ ?_ ?_).mono ?_); (focus (simp; done)); (focus rfl); (focus rfl); (focus (simp; done)); rw [H8.out]; rintro e w' ⟨rfl, u, rfl⟩))
  go_ret
  exact ⟨rfl, by exact yd⟩
 ·cases T1
  ·go_wp2_with (first | (go_at_call 129; (with_reducible refine (Up.run (H0.out _ ?_)).mono ?_); (focus exact yd); rintro e w' ⟨rfl, u0, rfl⟩) | (go_at_call 131; (with_reducible refine (Up.run (H1.out _ ?_)).mono ?_); (focus exact yd); rintro e w' ⟨rfl, u1, rfl⟩) | (go_at_call 133; (with_reducible refine (Up.run (H2.out _ ?_)).mono ?_); (focus exact yd); rintro e w' ⟨rfl, u2, rfl⟩) | (go_at_call 134; (with_reducible refine (Up.run (H3.out _ ?_)).mono ?_); (focus exact yd); rintro e w' ⟨rfl, u3, rfl⟩) | (go_at_call 136; (with_reducible refine (Up.run (H4.out _ ?_)).mono ?_); (focus exact yd); rintro e w' ⟨rfl, u4, rfl⟩) | (go_at_call 138; (with_reducible refine (Up.run (H5.out _ ?_)).mono ?_); (focus exact yd); rintro e w' ⟨rfl, u5, rfl⟩) | (go_at_call 133; (with_reducible refine (Up.run (H7.out _ ?_)).mono ?_); (focus exact yd); rintro e w' ⟨rfl, u7, rfl⟩) | (go_at_call 140; (with_reducible refine (av [x0, x1, x2, x3, x4] _ _ _ _ _ _ ?_ ?_ ?_ ?_).mono ?_); (focus (simp; done)); (focus rfl); (focus rfl); (focus (simp; done)); rw [H6.out]; rintro e w' ⟨rfl, u, rfl⟩) | (go_at_call 133; (with_reducible refine (am 2147483647 [x5, x6] _ _ _ _ _ _ ?_ ?_ ?_ ?_).mono ?_); (focus (simp; done)); (focus rfl); (focus rfl); (focus (simp; done)); rw [H8.out]; rintro e w' ⟨rfl, u, rfl⟩))
   go_ret
   exact ⟨rfl, by exact yd⟩
  ·cases T2
   ·go_wp2_with (first | (go_at_call 129; (with_reducible refine (Up.run (H0.out _ ?_)).mono ?_); (focus exact yd); rintro e w' ⟨rfl, u0, rfl⟩) | (go_at_call 131; (with_reducible refine (Up.run (H1.out _ ?_)).mono ?_); (focus exact yd); rintro e w' ⟨rfl, u1, rfl⟩) | (go_at_call 133; (with_reducible refine (Up.run (H2.out _ ?_)).mono ?_); (focus exact yd); rintro e w' ⟨rfl, u2, rfl⟩) | (go_at_call 134; (with_reducible refine (Up.run (H3.out _ ?_)).mono ?_); (focus exact yd); rintro e w' ⟨rfl, u3, rfl⟩) | (go_at_call 136; (with_reducible refine (Up.run (H4.out _ ?_)).mono ?_); (focus exact yd); rintro e w' ⟨rfl, u4, rfl⟩) | (go_at_call 138; (with_reducible refine (Up.run (H5.out _ ?_)).mono ?_); (focus exact yd); rintro e w' ⟨rfl, u5, rfl⟩) | (go_at_call 133; (with_reducible refine (Up.run (H7.out _ ?_)).mono ?_); (focus exact yd); rintro e w' ⟨rfl, u7, rfl⟩) | (go_at_call 140; (with_reducible refine (av [x0, x1, x2, x3, x4] _ _ _ _ _ _ ?_ ?_ ?_ ?_).mono ?_); (focus (simp; done)); (focus rfl); (focus rfl); (focus (simp; done)); rw [H6.out]; rintro e w' ⟨rfl, u, rfl⟩) | (go_at_call 133; (with_reducible refine (am 2147483647 [x5, x6] _ _ _ _ _ _ ?_ ?_ ?_ ?_).mono ?_); (focus (simp; done)); (focus rfl); (focus rfl); (focus (simp; done)); rw [H8.out]; rintro e w' ⟨rfl, u, rfl⟩))
    go_ret
    exact ⟨rfl, by exact yd⟩
   ·cases T3
    ·go_wp2_with (first | (go_at_call 129; (with_reducible refine (Up.run (H0.out _ ?_)).mono ?_); (focus exact yd); rintro e w' ⟨rfl, u0, rfl⟩) | (go_at_call 131; (with_reducible refine (Up.run (H1.out _ ?_)).mono ?_); (focus exact yd); rintro e w' ⟨rfl, u1, rfl⟩) | (go_at_call 133; (with_reducible refine (Up.run (H2.out _ ?_)).mono ?_); (focus exact yd); rintro e w' ⟨rfl, u2, rfl⟩) | (go_at_call 134; (with_reducible refine (Up.run (H3.out _ ?_)).mono ?_); (focus exact yd); rintro e w' ⟨rfl, u3, rfl⟩) | (go_at_call 136; (with_reducible refine (Up.run (H4.out _ ?_)).mono ?_); (focus exact yd); rintro e w' ⟨rfl, u4, rfl⟩) | (go_at_call 138; (with_reducible refine (Up.run (H5.out _ ?_)).mono ?_); (focus exact yd); rintro e w' ⟨rfl, u5, rfl⟩) | (go_at_call 133; (with_reducible refine (Up.run (H7.out _ ?_)).mono ?_); (focus exact yd); rintro e w' ⟨rfl, u7, rfl⟩) | (go_at_call 140; (with_reducible refine (av [x0, x1, x2, x3, x4] _ _ _ _ _ _ ?_ ?_ ?_ ?_).mono ?_); (focus (simp; done)); (focus rfl); (focus rfl); (focus (simp; done)); rw [H6.out]; rintro e w' ⟨rfl, u, rfl⟩) | (go_at_call 133; (with_reducible refine (am 2147483647 [x5, x6] _ _ _ _ _ _ ?_ ?_ ?_ ?_).mono ?_); (focus (simp; done)); (focus rfl); (focus rfl); (focus (simp; done)); rw [H8.out]; rintro e w' ⟨rfl, u, rfl⟩))
     go_ret
     exact ⟨rfl, by exact yd⟩
    ·cases T4
     ·go_wp2_with (first | (go_at_call 129; (with_reducible refine (Up.run (H0.out _ ?_)).mono ?_); (focus exact yd); rintro e w' ⟨rfl, u0, rfl⟩) | (go_at_call 131; (with_reducible refine (Up.run (H1.out _ ?_)).mono ?_); (focus exact yd); rintro e w' ⟨rfl, u1, rfl⟩) | (go_at_call 133; (with_reducible refine (Up.run (H2.out _ ?_)).mono ?_); (focus exact yd); rintro e w' ⟨rfl, u2, rfl⟩) | (go_at_call 134; (with_reducible refine (Up.run (H3.out _ ?_)).mono ?_); (focus exact yd); rintro e w' ⟨rfl, u3, rfl⟩) | (go_at_call 136; (with_reducible refine (Up.run (H4.out _ ?_)).mono ?_); (focus exact yd); rintro e w' ⟨rfl, u4, rfl⟩) | (go_at_call 138; (with_reducible refine (Up.run (H5.out _ ?_)).mono ?_); (focus exact yd); rintro e w' ⟨rfl, u5, rfl⟩) | (go_at_call 133; (with_reducible refine (Up.run (H7.out _ ?_)).mono ?_); (focus exact yd); rintro e w' ⟨rfl, u7, rfl⟩) | (go_at_call 140; (with_reducible refine (av [x0, x1, x2, x3, x4] _ _ _ _ _ _ ?_ ?_ ?_ ?_).mono ?_); (focus (simp; done)); (focus rfl); (focus rfl); (focus (simp; done)); rw [H6.out]; rintro e w' ⟨rfl, u, rfl⟩) | (go_at_call 133; (with_reducible refine (am 2147483647 [x5, x6] _ _ _ _ _ _ ?_ ?_ ?_ ?_).mono ?_); (focus (simp; done)); (focus rfl); (focus rfl); (focus (simp; done)); rw [H8.out]; rintro e w' ⟨rfl, u, rfl⟩))
      go_ret
      exact ⟨rfl, by exact yd⟩
     ·cases T5
      ·go_wp2_with (first | (go_at_call 129; (with_reducible refine (Up.run (H0.out _ ?_)).mono ?_); (focus exact yd); rintro e w' ⟨rfl, u0, rfl⟩) | (go_at_call 131; (with_reducible refine (Up.run (H1.out _ ?_)).mono ?_); (focus exact yd); rintro e w' ⟨rfl, u1, rfl⟩) | (go_at_call 133; (with_reducible refine (Up.run (H2.out _ ?_)).mono ?_); (focus exact yd); rintro e w' ⟨rfl, u2, rfl⟩) | (go_at_call 134; (with_reducible refine (Up.run (H3.out _ ?_)).mono ?_); (focus exact yd); rintro e w' ⟨rfl, u3, rfl⟩) | (go_at_call 136; (with_reducible refine (Up.run (H4.out _ ?_)).mono ?_); (focus exact yd); rintro e w' ⟨rfl, u4, rfl⟩) | (go_at_call 138; (with_reducible refine (Up.run (H5.out _ ?_)).mono ?_); (focus exact yd); rintro e w' ⟨rfl, u5, rfl⟩) | (go_at_call 133; (with_reducible refine (Up.run (H7.out _ ?_)).mono ?_); (focus exact yd); rintro e w' ⟨rfl, u7, rfl⟩) | (go_at_call 140; (with_reducible refine (av [x0, x1, x2, x3, x4] _ _ _ _ _ _ ?_ ?_ ?_ ?_).mono ?_); (focus (simp; done)); (focus rfl); (focus rfl); (focus (simp; done)); rw [H6.out]; rintro e w' ⟨rfl, u, rfl⟩) | (go_at_call 133; (with_reducible refine (am 2147483647 [x5, x6] _ _ _ _ _ _ ?_ ?_ ?_ ?_).mono ?_); (focus (simp; done)); (focus rfl); (focus rfl); (focus (simp; done)); rw [H8.out]; rintro e w' ⟨rfl, u, rfl⟩))
       go_ret
       exact ⟨rfl, by exact yd⟩
      ·cases T6
       ·go_wp2_with (first | (go_at_call 129; (with_reducible refine (Up.run (H0.out _ ?_)).mono ?_); (focus exact yd); rintro e w' ⟨rfl, u0, rfl⟩) | (go_at_call 131; (with_reducible refine (Up.run (H1.out _ ?_)).mono ?_); (focus exact yd); rintro e w' ⟨rfl, u1, rfl⟩) | (go_at_call 133; (with_reducible refine (Up.run (H2.out _ ?_)).mono ?_); (focus exact yd); rintro e w' ⟨rfl, u2, rfl⟩) | (go_at_call 134; (with_reducible refine (Up.run (H3.out _ ?_)).mono ?_); (focus exact yd); rintro e w' ⟨rfl, u3, rfl⟩) | (go_at_call 136; (with_reducible refine (Up.run (H4.out _ ?_)).mono ?_); (focus exact yd); rintro e w' ⟨rfl, u4, rfl⟩) | (go_at_call 138; (with_reducible refine (Up.run (H5.out _ ?_)).mono ?_); (focus exact yd); rintro e w' ⟨rfl, u5, rfl⟩) | (go_at_call 133; (with_reducible refine (Up.run (H7.out _ ?_)).mono ?_); (focus exact yd); rintro e w' ⟨rfl, u7, rfl⟩) | (go_at_call 140; (with_reducible refine (av [x0, x1, x2, x3, x4] _ _ _ _ _ _ ?_ ?_ ?_ ?_).mono ?_); (focus (simp; done)); (focus rfl); (focus rfl); (focus (simp; done)); rw [H6.out]; rintro e w' ⟨rfl, u, rfl⟩) | (go_at_call 133; (with_reducible refine (am 2147483647 [x5, x6] _ _ _ _ _ _ ?_ ?_ ?_ ?_).mono ?_); (focus (simp; done)); (focus rfl); (focus rfl); (focus (simp; done)); rw [H8.out]; rintro e w' ⟨rfl, u, rfl⟩))
        go_ret
        exact ⟨rfl, by exact yd⟩
       ·cases T7
        ·go_wp2_with (first | (go_at_call 129; (with_reducible refine (Up.run (H0.out _ ?_)).mono ?_); (focus exact yd); rintro e w' ⟨rfl, u0, rfl⟩) | (go_at_call 131; (with_reducible refine (Up.run (H1.out _ ?_)).mono ?_); (focus exact yd); rintro e w' ⟨rfl, u1, rfl⟩) | (go_at_call 133; (with_reducible refine (Up.run (H2.out _ ?_)).mono ?_); (focus exact yd); rintro e w' ⟨rfl, u2, rfl⟩) | (go_at_call 134; (with_reducible refine (Up.run (H3.out _ ?_)).mono ?_); (focus exact yd); rintro e w' ⟨rfl, u3, rfl⟩) | (go_at_call 136; (with_reducible refine (Up.run (H4.out _ ?_)).mono ?_); (focus exact yd); rintro e w' ⟨rfl, u4, rfl⟩) | (go_at_call 138; (with_reducible refine (Up.run (H5.out _ ?_)).mono ?_); (focus exact yd); rintro e w' ⟨rfl, u5, rfl⟩) | (go_at_call 133; (with_reducible refine (Up.run (H7.out _ ?_)).mono ?_); (focus exact yd); rintro e w' ⟨rfl, u7, rfl⟩) | (go_at_call 140; (with_reducible refine (av [x0, x1, x2, x3, x4] _ _ _ _ _ _ ?_ ?_ ?_ ?_).mono ?_); (focus (simp; done)); (focus rfl); (focus rfl); (focus (simp; done)); rw [H6.out]; rintro e w' ⟨rfl, u, rfl⟩) | (go_at_call 133; (with_reducible refine (am 2147483647 [x5, x6] _ _ _ _ _ _ ?_ ?_ ?_ ?_).mono ?_); (focus (simp; done)); (focus rfl); (focus rfl); (focus (simp; done)); rw [H8.out]; rintro e w' ⟨rfl, u, rfl⟩))
         go_ret
         exact ⟨rfl, by exact yd⟩
        ·cases T8
         ·go_wp2_with (first | (go_at_call 129; (with_reducible refine (Up.run (H0.out _ ?_)).mono ?_); (focus exact yd); rintro e w' ⟨rfl, u0, rfl⟩) | (go_at_call 131; (with_reducible refine (Up.run (H1.out _ ?_)).mono ?_); (focus exact yd); rintro e w' ⟨rfl, u1, rfl⟩) | (go_at_call 133; (with_reducible refine (Up.run (H2.out _ ?_)).mono ?_); (focus exact yd); rintro e w' ⟨rfl, u2, rfl⟩) | (go_at_call 134; (with_reducible refine (Up.run (H3.out _ ?_)).mono ?_); (focus exact yd); rintro e w' ⟨rfl, u3, rfl⟩) | (go_at_call 136; (with_reducible refine (Up.run (H4.out _ ?_)).mono ?_); (focus exact yd); rintro e w' ⟨rfl, u4, rfl⟩) | (go_at_call 138; (with_reducible refine (Up.run (H5.out _ ?_)).mono ?_); (focus exact yd); rintro e w' ⟨rfl, u5, rfl⟩) | (go_at_call 133; (with_reducible refine (Up.run (H7.out _ ?_)).mono ?_); (focus exact yd); rintro e w' ⟨rfl, u7, rfl⟩) | (go_at_call 140; (with_reducible refine (av [x0, x1, x2, x3, x4] _ _ _ _ _ _ ?_ ?_ ?_ ?_).mono ?_); (focus (simp; done)); (focus rfl); (focus rfl); (focus (simp; done)); rw [H6.out]; rintro e w' ⟨rfl, u, rfl⟩) | (go_at_call 133; (with_reducible refine (am 2147483647 [x5, x6] _ _ _ _ _ _ ?_ ?_ ?_ ?_).mono ?_); (focus (simp; done)); (focus rfl); (focus rfl); (focus (simp; done)); rw [H8.out]; rintro e w' ⟨rfl, u, rfl⟩))
          go_ret
          exact ⟨rfl, by exact yd⟩
         ·go_wp2_with (first | (go_at_call 129; (with_reducible refine (Up.run (H0.out _ ?_)).mono ?_); (focus exact yd); rintro e w' ⟨rfl, u0, rfl⟩) | (go_at_call 131; (with_reducible refine (Up.run (H1.out _ ?_)).mono ?_); (focus exact yd); rintro e w' ⟨rfl, u1, rfl⟩) | (go_at_call 133; (with_reducible refine (Up.run (H2.out _ ?_)).mono ?_); (focus exact yd); rintro e w' ⟨rfl, u2, rfl⟩) | (go_at_call 134; (with_reducible refine (Up.run (H3.out _ ?_)).mono ?_); (focus exact yd); rintro e w' ⟨rfl, u3, rfl⟩) | (go_at_call 136; (with_reducible refine (Up.run (H4.out _ ?_)).mono ?_); (focus exact yd); rintro e w' ⟨rfl, u4, rfl⟩) | (go_at_call 138; (with_reducible refine (Up.run (H5.out _ ?_)).mono ?_); (focus exact yd); rintro e w' ⟨rfl, u5, rfl⟩) | (go_at_call 133; (with_reducible refine (Up.run (H7.out _ ?_)).mono ?_); (focus exact yd); rintro e w' ⟨rfl, u7, rfl⟩) | (go_at_call 140; (with_reducible refine (av [x0, x1, x2, x3, x4] _ _ _ _ _ _ ?_ ?_ ?_ ?_).mono ?_); (focus (simp; done)); (focus rfl); (focus rfl); (focus (simp; done)); rw [H6.out]; rintro e w' ⟨rfl, u, rfl⟩) | (go_at_call 133; (with_reducible refine (am 2147483647 [x5, x6] _ _ _ _ _ _ ?_ ?_ ?_ ?_).mono ?_); (focus (simp; done)); (focus rfl); (focus rfl); (focus (simp; done)); rw [H8.out]; rintro e w' ⟨rfl, u, rfl⟩))
          go_ret
          exact ⟨rfl, by exact yd⟩
theorem gN (T : Array Value) (t : Tab) (w : World) (hT : ag w T t) : Calls Tryz.prog 49 #[.agg T] w fun e w' => e = .returned (.bool (dS t)) ∧ Below w.heap.size w w' := by
 haveI : Sz131 T := ⟨hT.size⟩
 have hb : Below w.heap.size w (w.alloc (.cells T 34)) := (Below.refl _ _).alloc (Nat.le_refl _) _
 have hT1 : ag (w.alloc (.cells T 34)) T t := hT.below hb (Nat.le_refl _)
 have iB : IsBlk (w.alloc (.cells T 34)) w.heap.size T 34 := inferInstance
 have hs : (w.alloc (.cells T 34)).heap.size = w.heap.size + 1 := by simp
 obtain ⟨ga, gc, t104, g1⟩ := oH hT1
 obtain ⟨da, dc, t113, g3⟩ := uh hT1
 obtain ⟨ra, rc, t114, g4⟩ := wj hT1
 obtain ⟨ba, bc, t115, g5⟩ := vW hT1
 have g0 := wM hT1 iB
 have g2 := wC hT1 iB
 have g7 := aeA hT1 iB
 rw [hs] at g0 g1 g2 g3 g4 g5 g7
 have hc : ∀ i v, i < 131 → ah t (.slice ga t.gr.length gc) (.slice da t.de.length dc) (.slice ra t.ra.length rc) (.slice ba t.bu.length bc) i = v → 116 ≤ i → T[i]? = some v := fun i v hi hv h116 => by
  obtain ⟨g, d, r, b, rfl, _⟩ := hT
  rw [ab _ _ _ hi, ← hv]
  unfold ah
  simp only [show ¬ i < 104 by omega, show ¬ i = 104 by omega, show ¬ i < 113 by omega, show ¬ i = 113 by omega, show ¬ i = 114 by omega, show ¬ i = 115 by omega, if_false]
 exact va T ga da ra ba _ gc _ dc _ rc _ bc t.ext t.bud t.start t.rev t.least t.win t.share _ _ _ _ _ _ _ _ _ w t104 t113 t114 t115 (hc 116 _ (by omega) rfl (by omega)) (hc 117 _ (by omega) rfl (by omega)) (hc 118 _ (by omega) rfl (by omega)) (hc 119 _ (by omega) rfl (by omega)) (hc 120 _ (by omega) rfl (by omega)) (hc 129 _ (by omega) rfl (by omega)) (hc 130 _ (by omega) rfl (by omega))
  (Lib.hid rfl) (Lib.hid rfl) (Lib.hid g0) (Lib.hid g1) (Lib.hid g2) (Lib.hid g3) (Lib.hid g4) (Lib.hid g5) (Lib.hid g7)
end
end Go.Proofs.YtodgfjgljcinlaaGreat
