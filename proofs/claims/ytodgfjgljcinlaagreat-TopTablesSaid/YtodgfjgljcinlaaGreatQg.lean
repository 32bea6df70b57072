/- Part Qg of the proof: RdrP, RdrS, RdrN, RdrQ, RdrT. -/
import Derived.Test.YtodgfjgljcinlaaGreatQf
import Derived.Test.YtodgfjgljcinlaaGreatQc
import Derived.Test.YtodgfjgljcinlaaGreatQe
import Derived.Test.YtodgfjgljcinlaaGreatQa
namespace Go.Proofs.YtodgfjgljcinlaaGreat
set_option maxHeartbeats 8000000
set_option maxRecDepth 100000
set_option linter.unusedVariables false
section
open Go.RowKit
attribute [local go_sem] IsBlk.cell IsBlk.frozen
def aes : World → Phs → Value → Prop := fun _ x v => v = .agg (cy x).toArray
def xF (on : Bool) (l : List Int) : Pz Phs := (bY 1 0 3).bind fun rc => oZ.bind fun lk => oZ.bind fun rs => Pz.pure (gU on l rc lk rs)
theorem vJ {s r : List Int} {on : Bool} (h : oZ s = some (on, r)) : mz s = (aB dU 9 []).bind (xF on) r := by
 unfold mz
 rw [Pz.some h, ← ei]
 rfl
theorem tO (on : Bool) (zs : List Int) (n : Int) (h : zs.length < 9) : (cy (gU on zs 0 false false)).toArray.setIfInBounds (1 + zs.length) (.int .i64 n) = (cy (gU on (zs ++ [n]) 0 false false)).toArray := by
 match zs, h with
 | [], _ => rfl
 | [_], _ => rfl
 | [_, _], _ => rfl
 | [_, _, _], _ => rfl
 | [_, _, _, _], _ => rfl
 | [_, _, _, _, _], _ => rfl
 | [_, _, _, _, _, _], _ => rfl
 | [_, _, _, _, _, _, _], _ => rfl
 | [_, _, _, _, _, _, _, _], _ => rfl
def gF (b o n : Nat) : Array Value := ((List.range n).map fun i => Value.pointer (some ⟨b, o + i, none⟩)).toArray
theorem gD (b o : Nat) {n j : Nat} (h : j < n) : (gF b o n)[j]? = some (.pointer (some ⟨b, o + j, none⟩)) := by simp [gF, h]
theorem oX (R : Nat) (W : World) (a : Option Addr) (cap : Nat) (s : List Int) (p : Nat) (h : RdP R W a cap s p) :
  Calls Tryz.prog 121 #[.agg #[.pointer (some ⟨R, 0, none⟩)]] W fun e w' => aG R W w' a cap s aes (mz (s.drop p)) e := by
 have hlt := h.rd.lt
 have H := Lib.hid h
 clear h
 go_enter Tryz.func121, Tryz.ntmps121
 go_wp2_with fail
 go_at_call 172; refine (jM R _ a cap s p (H.out.below (by exact yd))).mono ?_; rintro e w1 h1
 cases hO : oZ (s.drop p) with
 | none =>
  rw [hO] at h1
  obtain ⟨c, f, he, h2, h3, h4, h5⟩ := h1
  unfold aW dt at he; subst he
  exact ⟨rfl, aG.no (by unfold mz; exact Pz.none hO) h2 h3 h4 ((h5.alloc _ (by simp; omega)).alloc _ hlt)⟩
 | some x =>
  obtain ⟨on, r⟩ := x
  have HPH := Lib.hid (vJ hO)
  rw [hO] at h1
  obtain ⟨v, p1, rfl, rfl, h3, h4, h5, h6⟩ := h1
  haveI iX : IsBlk w1 W.heap.size #[.pointer (some ⟨R, 0, none⟩)] 120 := h6.blk (b := W.heap.size) inferInstance (by omega)
  haveI iZ : IsBlk w1 (W.heap.size + 1) (cy vz).toArray 26 := h6.blk (b := W.heap.size + 1) inferInstance (by omega)
  have hk1 : Kp R W w1 := (h6.alloc _ (by simp; omega)).alloc _ hlt
  rw [h3] at HPH
  clear h6 hO h3
  have hs1 := hk1.size
  have lZ := iZ.le.out
  go_wp2
  go_loopw [20] (fun i wr => ∃ (j : Nat) (zs : List Int) (q : Nat), j ≤ 9 ∧ i = .int .i64 j ∧ zs.length = j ∧ q ≤ s.length ∧ RdS R wr a cap s q 0 0 ∧ Kp R W wr ∧ IsBlk wr W.heap.size #[.pointer (some ⟨R, 0, none⟩)] 120 ∧ IsBlk wr (W.heap.size + 1) (cy vz).toArray 26 ∧
   IsBlk wr w1.heap.size (cy (gU on zs 0 false false)).toArray 26 ∧ IsBlk wr (w1.heap.size + 1) (gF w1.heap.size 1 9) 184 ∧ Hid (mz (s.drop p) = (aB dU (9 - j) zs).bind (xF on) (s.drop q))) (fun i _ => 9 - (intOf i).toNat)
  case atStart => exact ⟨0, [], p1, by omega, rfl, rfl, h4, (h5.more _).more _, (hk1.more _ hlt).more _ hlt, inferInstance, inferInstance, (inferInstance : IsBlk _ _ _ _), (inferInstance : IsBlk _ _ _ _), HPH⟩
  case round =>
   clear iX iZ hk1 h5 h4 HPH
   obtain ⟨j, zs, q, hj, rfl, hzl, hq, hrd, hk, iX, iZ, iP, iQ, HRW⟩ := hrel
   have hsz := hk.size
   haveI := iX
   have lX := iX.le.out
   have lQ := iQ.le.out
   by_cases hj9 : j < 9
   ·have hjI : (j : Int) < 9 := by omega
    have hpt : (gF w1.heap.size 1 9)[j]? = some (.pointer (some ⟨w1.heap.size, 1 + j, none⟩)) := gD _ _ hj9
    generalize gF w1.heap.size 1 9 = PT at *
    obtain ⟨C, hC⟩ : ∃ C, (cy (gU on zs 0 false false)).toArray = C := ⟨_, rfl⟩
    obtain ⟨V, hV⟩ : ∃ V, C[1 + j]? = some V := ⟨_, Array.getElem?_eq_getElem (by rw [← hC]; show 1 + j < 13; omega)⟩
    have HC := Lib.hid hC
    rw [hC] at iP
    clear hC
    go_wp2_with fail
    go_at_call 126; refine (dJ R _ a cap s q (H.out.mk' hrd hq)).mono ?_; rintro e w2 h1
    cases hO : dU (s.drop q) with
    | none =>
     rw [hO] at h1
     obtain ⟨c, f, he, h2, h3, h4, h5⟩ := h1
     unfold aW dt at he; subst he
     exact ⟨rfl, aG.no (by rw [HRW.out, show 9 - j = (9 - j - 1) + 1 by omega, yq hO]) h2 h3 h4 (hk.trans h5)⟩
    | some x =>
     obtain ⟨n, r⟩ := x
     have HR2 : Hid (mz (s.drop p) = (aB dU (9 - (j + 1)) (zs ++ [n])).bind (xF on) r) := Lib.hid (by rw [HRW.out, show 9 - j = (9 - (j + 1)) + 1 by omega, bI hO])
     rw [hO] at h1
     obtain ⟨v, q2, rfl, rfl, rfl, h4, h5, h6⟩ := h1
     have hk2 := hk.trans h6
     have iX2 : IsBlk w2 W.heap.size #[.pointer (some ⟨R, 0, none⟩)] 120 := h6.blk iX (by omega)
     have iZ2 := h6.blk iZ (by omega)
     haveI iP2 := h6.blk iP (by omega)
     have iQ2 := h6.blk iQ (by omega)
     have lP2 := iP2.le.out
     haveI ap1 : Apart W.heap.size w1.heap.size := ⟨by omega⟩
     haveI ap2 : Apart (W.heap.size + 1) w1.heap.size := ⟨by omega⟩
     haveI ap3 : Apart (w1.heap.size + 1) w1.heap.size := ⟨by omega⟩
     go_wp2
     go_roundw
     case rel => exact ⟨j + 1, zs ++ [n], q2, by omega, by go_num, by simp [hzl], h4, H.out.rd.own h5 hk2 (by omega), hk2.own hlt (by omega), inferInstance, inferInstance, by rw [← tO on zs n (by omega), HC.out, hzl]; infer_instance, inferInstance, HR2⟩
     case measure => simp [intOf]; omega
   ·obtain rfl : j = 9 := by omega
    have HR3 : Hid (mz (s.drop p) = xF on zs (s.drop q)) := Lib.hid (by rw [HRW.out, Nat.sub_self, ca])
    clear HRW
    obtain ⟨C, hC⟩ : ∃ C, (cy (gU on zs 0 false false)).toArray = C := ⟨_, rfl⟩
    have h10 : C[10]? = some (.int .i64 0) := by rw [← hC]; rfl
    have h11 : ∀ v, (C.setIfInBounds 10 v)[11]? = some (.bool false) := fun v => by rw [← hC]; rfl
    have h12 : ∀ v v', ((C.setIfInBounds 10 v).setIfInBounds 11 v')[12]? = some (.bool false) := fun v v' => by rw [← hC]; rfl
    have HC : Hid (∀ rc lk rs, ((C.setIfInBounds 10 (.int .i64 rc)).setIfInBounds 11 (.bool lk)).setIfInBounds 12 (.bool rs) = (cy (gU on zs rc lk rs)).toArray) := Lib.hid fun _ _ _ => by rw [← hC]; rfl
    rw [hC] at iP
    clear hC
    go_wp2_with fail
    go_at_call 42; refine (bx R _ a cap s q 1 0 3 (H.out.mk' hrd hq) (by omega) (by omega)).mono ?_; rintro e w2 h1
    cases hO : bY 1 0 3 (s.drop q) with
    | none =>
     rw [hO] at h1
     obtain ⟨c, f, he, h2, h3, h4, h5⟩ := h1
     unfold aW dt at he; subst he
     exact ⟨rfl, aG.no (by rw [HR3.out]; exact Pz.none hO) h2 h3 h4 (hk.trans h5)⟩
    | some x =>
     obtain ⟨rc, r⟩ := x
     have HR4 : Hid (mz (s.drop p) = (oZ.bind fun lk => oZ.bind fun rs => Pz.pure (gU on zs rc lk rs)) r) := Lib.hid (by rw [HR3.out]; exact Pz.some hO)
     rw [hO] at h1
     obtain ⟨v, q2, rfl, rfl, rfl, h4, h5, h6⟩ := h1
     have hk2 := hk.trans h6
     haveI iX2 : IsBlk w2 W.heap.size #[.pointer (some ⟨R, 0, none⟩)] 120 := h6.blk iX (by omega)
     haveI iZ2 := h6.blk iZ (by omega)
     haveI iP2 := h6.blk iP (by omega)
     have lP2 := iP2.le.out
     haveI ap1 : Apart W.heap.size w1.heap.size := ⟨by omega⟩
     haveI ap2 : Apart (W.heap.size + 1) w1.heap.size := ⟨by omega⟩
     clear iX iZ iP iQ hO HR3
     go_wp2_with fail
     have hk3 : Kp R W (w2.setCell ⟨w1.heap.size, 10, none⟩ (.int .i64 rc)) := hk2.own hlt (by omega)
     go_at_call 172; refine (jM R _ a cap s q2 (H.out.mk' (H.out.rd.own h5 hk2 (by omega)) h4)).mono ?_; rintro e w3 h1
     cases hO : oZ (s.drop q2) with
     | none =>
      rw [hO] at h1
      obtain ⟨c, f, he, h2, h3, h4, h5⟩ := h1
      unfold aW dt at he; subst he
      exact ⟨rfl, aG.no (by rw [HR4.out]; exact Pz.none hO) h2 h3 h4 (hk3.trans h5)⟩
     | some x =>
      obtain ⟨lk, r⟩ := x
      have HR5 : Hid (mz (s.drop p) = (oZ.bind fun rs => Pz.pure (gU on zs rc lk rs)) r) := Lib.hid (by rw [HR4.out]; exact Pz.some hO)
      rw [hO] at h1
      obtain ⟨v, q3, rfl, rfl, rfl, h4', h5', h6'⟩ := h1
      have hk4 := hk3.trans h6'
      haveI iX3 : IsBlk w3 W.heap.size #[.pointer (some ⟨R, 0, none⟩)] 120 := h6'.blk inferInstance (by omega)
      haveI iZ3 : IsBlk w3 (W.heap.size + 1) (cy vz).toArray 26 := h6'.blk inferInstance (by omega)
      haveI iP3 : IsBlk w3 w1.heap.size (C.setIfInBounds 10 (.int .i64 rc)) 26 := h6'.blk inferInstance (by omega)
      have lP3 := iP3.le.out
      have h11 := h11 (.int .i64 rc)
      clear iX2 iZ2 iP2 hO HR4 h5 h4 h6 h6' hrd hk
      go_wp2_with fail
      have hk5 : Kp R W (w3.setCell ⟨w1.heap.size, 11, none⟩ (.bool lk)) := hk4.own hlt (by omega)
      go_at_call 172; refine (jM R _ a cap s q3 (H.out.mk' (H.out.rd.own h5' hk4 (by omega)) h4')).mono ?_; rintro e w4 h1
      cases hO : oZ (s.drop q3) with
      | none =>
       rw [hO] at h1
       obtain ⟨c, f, he, h2, h3, h4, h5⟩ := h1
       unfold aW dt at he; subst he
       exact ⟨rfl, aG.no (by rw [HR5.out]; exact Pz.none hO) h2 h3 h4 (hk5.trans h5)⟩
      | some x =>
       obtain ⟨rs, r⟩ := x
       have HR6 : Hid (mz (s.drop p) = some (gU on zs rc lk rs, r)) := Lib.hid (by rw [HR5.out]; exact Pz.some hO)
       rw [hO] at h1
       obtain ⟨v, q4, rfl, rfl, rfl, h4, h5, h6⟩ := h1
       have hk6 := hk5.trans h6
       have iZ4 : IsBlk w4 (W.heap.size + 1) (cy vz).toArray 26 := h6.blk inferInstance (by omega)
       haveI iP4 : IsBlk w4 w1.heap.size ((C.setIfInBounds 10 (.int .i64 rc)).setIfInBounds 11 (.bool lk)) 26 := h6.blk inferInstance (by omega)
       have lP4 := iP4.le.out
       have h12 := h12 (.int .i64 rc) (.bool lk)
       have HC2 := Lib.hid (HC.out rc lk rs)
       obtain ⟨X, hX⟩ : ∃ X, (cy (gU on zs rc lk rs)).toArray = X := ⟨_, rfl⟩
       obtain ⟨Z, hZ⟩ : ∃ Z, (cy vz).toArray = Z := ⟨_, rfl⟩
       have hXs : X.size = 13 := by rw [← hX]; rfl
       have hZs : Z.size = 13 := by rw [← hZ]; rfl
       have hX1 : X.all (·.oneCell') = true := by rw [← hX]; simp [cy, Value.oneCell']
       rw [hX] at HC2
       rw [hZ] at iZ4
       haveI := iZ4
       have HX := Lib.hid hX
       have HXS := Lib.hid hXs
       have HZS := Lib.hid hZs
       clear hX hZ hXs hZs iX3 iZ3 iP3 hO HR5 HC h5' h4' h6 hk4 hk3 h11
       haveI iXX : IsBlk (w4.setCell ⟨w1.heap.size, 12, none⟩ (.bool rs)) w1.heap.size X 26 := by rw [← HC2.out]; infer_instance
       have hk7 : Kp R W (w4.setCell ⟨w1.heap.size, 12, none⟩ (.bool rs)) := hk6.own hlt (by omega)
       have hr7 : RdS R (w4.setCell ⟨w1.heap.size, 12, none⟩ (.bool rs)) a cap s (q4 : Nat) 0 0 := H.out.rd.own h5 hk6 (by omega)
       have HSET : Hid (((w4.setCell ⟨w1.heap.size, 12, none⟩ (.bool rs)).setCells (W.heap.size + 1) 0 X.toList).heap[W.heap.size + 1]? = some (.cells X 26)) := Lib.hid (by
        rw [ap _ (inferInstance : IsBlk (w4.setCell ⟨w1.heap.size, 12, none⟩ (.bool rs)) (W.heap.size + 1) Z 26).out, yp (by rw [HZS.out, HXS.out])])
       go_wp2_with (first | (refine ax 26 _ (C := X) rfl rfl rfl Tryz.underlying26 rfl (by rw [HXS.out]; kernel_rfl) ?_; go_simp) | (refine ac (o := 0) (cs := X) (C := Z) 26 rfl rfl rfl rfl (by rw [HZS.out, HXS.out]; exact Nat.le_refl _) (by rw [HXS.out]; kernel_rfl) hX1 ?_; go_simp))
       refine bodyPost_ret (results_cell_row (p := 2) (ty := 26) rfl _ _ (W.heap.size + 1) 26 X (0, 0) _ rfl HSET.out Tryz.underlying26 rfl (by rw [HXS.out]; kernel_rfl)) rfl ?_
       exact aG.yes HR6.out (by unfold aes; rw [HX.out]) h4 (H.out.rd.owns hr7 hk7 (by omega)) (hk7.owns hlt (by omega))
end
section
open Go.RowKit
attribute [local go_sem] IsBlk.cell IsBlk.frozen
def si : World → Rl → Value → Prop := fun _ x v => v = .agg (dq x).toArray
def im (a b : List Int) (m : Int) : Rl := ⟨a.getD 0 0, a.getD 1 0, a.getD 2 0, a.getD 3 0, b.getD 0 0, b.getD 1 0, b.getD 2 0, b.getD 3 0, b.getD 4 0, b.getD 5 0, m⟩
def pW (a b : List Int) : Pz Rl := (bY 4 0 2147483647).bind fun m => Pz.pure (im a b m)
def xm (a : List Int) : Pz Rl := (dU.rep 6).bind (pW a)
theorem wd : rlP = (aB kz 4 []).bind xm := by rw [← ei]; rfl
theorem aeG (a : List Int) : xm a = (aB dU 6 []).bind (pW a) := by rw [← ei]; rfl
theorem qc (zs : List Int) (n : Int) (h : zs.length < 4) : (dq (im zs [] 0)).toArray.setIfInBounds (0 + zs.length) (.int .i64 n) = (dq (im (zs ++ [n]) [] 0)).toArray := by
 match zs, h with
 | [], _ => rfl
 | [_], _ => rfl
 | [_, _], _ => rfl
 | [_, _, _], _ => rfl
theorem qj (xs zs : List Int) (n : Int) (h : zs.length < 6) : (dq (im xs zs 0)).toArray.setIfInBounds (4 + zs.length) (.int .i64 n) = (dq (im xs (zs ++ [n]) 0)).toArray := by
 match zs, h with
 | [], _ => rfl
 | [_], _ => rfl
 | [_, _], _ => rfl
 | [_, _, _], _ => rfl
 | [_, _, _, _], _ => rfl
 | [_, _, _, _, _], _ => rfl
theorem IsBlk.cast {w : World} {b : Nat} {C C' : Array Value} {t : TypeId} (h : IsBlk w b C t) (e : C = C') : IsBlk w b C' t := e ▸ h
theorem qp (R : Nat) (W : World) (a : Option Addr) (cap : Nat) (s : List Int) (p : Nat) (h : RdP R W a cap s p) :
  Calls Tryz.prog 125 #[.agg #[.pointer (some ⟨R, 0, none⟩)]] W fun e w' => aG R W w' a cap s si (rlP (s.drop p)) e := by
 have hlt := h.rd.lt
 have H := Lib.hid h
 have hle := h.le
 clear h
 have HR0 : Hid (rlP (s.drop p) = (aB kz 4 []).bind xm (s.drop p)) := Lib.hid (by rw [wd])
 go_enter Tryz.func125, Tryz.ntmps125
 obtain ⟨b, hb⟩ : ∃ b, W.heap.size + 2 = b := ⟨_, rfl⟩
 have hb1 : W.heap.size + 1 < b := by omega
 haveI ap1 : Apart W.heap.size b := ⟨by omega⟩
 haveI ap2 : Apart (W.heap.size + 1) b := ⟨by omega⟩
 haveI ap3 : Apart (b + 1) b := ⟨by omega⟩
 have hk0 : ∀ o1 o2 o3 o4, Kp R W ((((W.alloc o1).alloc o2).alloc o3).alloc o4) := fun o1 o2 o3 o4 => (((((Kp.refl R W).more o1 hlt).more o2 hlt).more o3 hlt).more o4 hlt)
 have hr0 : ∀ o1 o2 o3 o4, RdS R ((((W.alloc o1).alloc o2).alloc o3).alloc o4) a cap s (p : Nat) 0 0 := fun o1 o2 o3 o4 => (((H.out.rd.more o1).more o2).more o3).more o4
 go_wp2
 go_loopw [14] (fun i wr => ∃ (j : Nat) (k : Int) (zs : List Int) (q : Nat), j ≤ 4 ∧ Hid (k = j) ∧ i = .int .i64 k ∧ zs.length = j ∧ q ≤ s.length ∧ RdS R wr a cap s q 0 0 ∧ Kp R W wr ∧ IsBlk wr W.heap.size #[.pointer (some ⟨R, 0, none⟩)] 120 ∧ IsBlk wr (W.heap.size + 1) (dq uI).toArray 100 ∧
  IsBlk wr b (dq (im zs [] 0)).toArray 100 ∧ IsBlk wr (b + 1) (gF b 0 4) 184 ∧ Hid (rlP (s.drop p) = (aB kz (4 - j) zs).bind xm (s.drop q))) (fun i _ => 4 - (intOf i).toNat)
 case atStart => exact ⟨0, 0, [], p, by omega, Lib.hid rfl, rfl, rfl, hle, hr0 _ _ _ _, hk0 _ _ _ _, inferInstance, IsBlk.cast inferInstance rfl, by subst hb; exact IsBlk.cast inferInstance rfl, by subst hb; exact IsBlk.cast inferInstance rfl, HR0⟩
 case round =>
  clear hk0 hr0 HR0
  obtain ⟨j, k, zs, q, hj, HK, rfl, hzl, hq, hrd, hk, iX, iZ, iP, iQ, HRW⟩ := hrel
  have hsz := hk.size
  haveI := iX
  have lX := iX.le.out
  have lQ := iQ.le.out
  by_cases hj4 : j < 4
  ·obtain rfl := HK.out
   clear HK
   have hjI : (j : Int) < 4 := by omega
   have hpt : (gF b 0 4)[j]? = some (.pointer (some ⟨b, 0 + j, none⟩)) := gD _ _ hj4
   generalize gF b 0 4 = PT at *
   obtain ⟨C, hC⟩ : ∃ C, (dq (im zs [] 0)).toArray = C := ⟨_, rfl⟩
   obtain ⟨V, hV⟩ : ∃ V, C[0 + j]? = some V := ⟨_, Array.getElem?_eq_getElem (by rw [← hC]; show 0 + j < 11; omega)⟩
   have HC := Lib.hid hC
   rw [hC] at iP
   rw [Nat.zero_add] at hpt hV
   clear hC
   haveI := iQ
   go_wp2_with fail
   go_at_call 123; refine (aaC R _ a cap s q (H.out.mk' hrd hq)).mono ?_; rintro e w2 h1
   cases hO : kz (s.drop q) with
   | none =>
    rw [hO] at h1
    obtain ⟨c, f, he, h2, h3, h4, h5⟩ := h1
    unfold aW dt at he; subst he
    exact ⟨rfl, aG.no (by rw [HRW.out, show 4 - j = (4 - j - 1) + 1 by omega, yq hO]) h2 h3 h4 (hk.trans h5)⟩
   | some x =>
    obtain ⟨n, r⟩ := x
    have HR2 : Hid (rlP (s.drop p) = (aB kz (4 - (j + 1)) (zs ++ [n])).bind xm r) := Lib.hid (by rw [HRW.out, show 4 - j = (4 - (j + 1)) + 1 by omega, bI hO])
    rw [hO] at h1
    obtain ⟨v, q2, rfl, rfl, rfl, h4, h5, h6⟩ := h1
    have hk2 := hk.trans h6
    have iX2 : IsBlk w2 W.heap.size #[.pointer (some ⟨R, 0, none⟩)] 120 := h6.blk iX (by omega)
    have iZ2 := h6.blk iZ (by omega)
    haveI iP2 := h6.blk iP (by omega)
    have iQ2 := h6.blk iQ (by omega)
    have lP2 := iP2.le.out
    go_wp2
    go_roundw
    case rel => exact ⟨j + 1, _, zs ++ [n], q2, by omega, Lib.hid (Int.natCast_succ j).symm, rfl, by simp [hzl], h4, H.out.rd.own h5 hk2 (by omega), hk2.own hlt (by omega), inferInstance, inferInstance, by rw [← qc zs n (by omega), HC.out, hzl, Nat.zero_add]; infer_instance, inferInstance, HR2⟩
    case measure => simp [intOf]; omega
  ·obtain rfl : j = 4 := by omega
   have hk4 : ¬ k < 4 := by have := HK.out; omega
   clear HK
   have HR3 : Hid (rlP (s.drop p) = (aB dU 6 []).bind (pW zs) (s.drop q)) := Lib.hid (by rw [HRW.out, Nat.sub_self, ca, aeG])
   clear HRW iQ
   haveI := iZ
   haveI := iP
   obtain ⟨B2, hB2⟩ : ∃ B2, wr.heap.size = B2 := ⟨_, rfl⟩
   have hbw : b < B2 := by omega
   haveI ap4 : Apart B2 b := ⟨by omega⟩
   go_wp2
   go_loopw [31] (fun i wx => ∃ (j : Nat) (bs : List Int) (q : Nat), j ≤ 6 ∧ i = .int .i64 j ∧ bs.length = j ∧ q ≤ s.length ∧ RdS R wx a cap s q 0 0 ∧ Kp R W wx ∧ IsBlk wx W.heap.size #[.pointer (some ⟨R, 0, none⟩)] 120 ∧ IsBlk wx (W.heap.size + 1) (dq uI).toArray 100 ∧
    IsBlk wx b (dq (im zs bs 0)).toArray 100 ∧ IsBlk wx B2 (gF b 4 6) 184 ∧ Hid (rlP (s.drop p) = (aB dU (6 - j) bs).bind (pW zs) (s.drop q))) (fun i _ => 6 - (intOf i).toNat)
   case atStart => exact ⟨0, [], q, by omega, rfl, rfl, hq, hrd.more _, hk.more _ hlt, inferInstance, inferInstance, inferInstance, by subst hB2; exact IsBlk.cast inferInstance rfl, HR3⟩
   case round =>
    clear iX iZ iP hk hrd HR3 hq
    obtain ⟨j, bs, q, hj, rfl, hbl, hq, hrd, hk, iX, iZ, iP, iQ, HRW⟩ := hrel
    have hsz2 := hk.size
    haveI := iX
    have lX2 := iX.le.out
    have lQ2 := iQ.le.out
    by_cases hj6 : j < 6
    ·have hjI : (j : Int) < 6 := by omega
     have hpt : (gF b 4 6)[j]? = some (.pointer (some ⟨b, 4 + j, none⟩)) := gD _ _ hj6
     generalize gF b 4 6 = PT at *
     obtain ⟨C, hC⟩ : ∃ C, (dq (im zs bs 0)).toArray = C := ⟨_, rfl⟩
     obtain ⟨V, hV⟩ : ∃ V, C[4 + j]? = some V := ⟨_, Array.getElem?_eq_getElem (by rw [← hC]; show 4 + j < 11; omega)⟩
     have HC := Lib.hid hC
     rw [hC] at iP
     clear hC
     haveI := iQ
     go_wp2_with fail
     go_at_call 126; refine (dJ R _ a cap s q (H.out.mk' hrd hq)).mono ?_; rintro e w2 h1
     cases hO : dU (s.drop q) with
     | none =>
      rw [hO] at h1
      obtain ⟨c, f, he, h2, h3, h4, h5⟩ := h1
      unfold aW dt at he; subst he
      exact ⟨rfl, aG.no (by rw [HRW.out, show 6 - j = (6 - j - 1) + 1 by omega, yq hO]) h2 h3 h4 (hk.trans h5)⟩
     | some x =>
      obtain ⟨n, r⟩ := x
      have HR2 : Hid (rlP (s.drop p) = (aB dU (6 - (j + 1)) (bs ++ [n])).bind (pW zs) r) := Lib.hid (by rw [HRW.out, show 6 - j = (6 - (j + 1)) + 1 by omega, bI hO])
      rw [hO] at h1
      obtain ⟨v, q2, rfl, rfl, rfl, h4, h5, h6⟩ := h1
      have hk2 := hk.trans h6
      have iX2 : IsBlk w2 W.heap.size #[.pointer (some ⟨R, 0, none⟩)] 120 := h6.blk iX (by omega)
      have iZ2 := h6.blk iZ (by omega)
      haveI iP2 := h6.blk iP (by omega)
      have iQ2 := h6.blk iQ (by omega)
      have lP2 := iP2.le.out
      go_wp2
      go_roundw
      case rel => exact ⟨j + 1, bs ++ [n], q2, by omega, by go_num, by simp [hbl], h4, H.out.rd.own h5 hk2 (by omega), hk2.own hlt (by omega), inferInstance, inferInstance, by rw [← qj zs bs n (by omega), HC.out, hbl]; infer_instance, inferInstance, HR2⟩
      case measure => simp [intOf]; omega
    ·obtain rfl : j = 6 := by omega
     have HR4 : Hid (rlP (s.drop p) = pW zs bs (s.drop q)) := Lib.hid (by rw [HRW.out, Nat.sub_self, ca])
     clear HRW iQ
     obtain ⟨C, hC⟩ : ∃ C, (dq (im zs bs 0)).toArray = C := ⟨_, rfl⟩
     have h10 : C[10]? = some (.int .i64 0) := by rw [← hC]; rfl
     have HC : Hid (∀ m, C.setIfInBounds 10 (.int .i64 m) = (dq (im zs bs m)).toArray) := Lib.hid fun _ => by rw [← hC]; rfl
     obtain ⟨Z, hZ⟩ : ∃ Z, (dq uI).toArray = Z := ⟨_, rfl⟩
     have HZS : Hid (Z.size = 11) := Lib.hid (by rw [← hZ]; rfl)
     rw [hC] at iP
     rw [hZ] at iZ
     clear hC hZ
     haveI := iP
     go_wp2_with fail
     go_at_call 42; refine (bx R _ a cap s q 4 0 2147483647 (H.out.mk' hrd hq) (by omega) (by omega)).mono ?_; rintro e w2 h1
     cases hO : bY 4 0 2147483647 (s.drop q) with
     | none =>
      rw [hO] at h1
      obtain ⟨c, f, he, h2, h3, h4, h5⟩ := h1
      unfold aW dt at he; subst he
      exact ⟨rfl, aG.no (by rw [HR4.out]; exact Pz.none hO) h2 h3 h4 (hk.trans h5)⟩
     | some x =>
      obtain ⟨m, r⟩ := x
      have HR5 : Hid (rlP (s.drop p) = some (im zs bs m, r)) := Lib.hid (by rw [HR4.out]; exact Pz.some hO)
      rw [hO] at h1
      obtain ⟨v, q2, rfl, rfl, rfl, h4, h5, h6⟩ := h1
      have hk2 := hk.trans h6
      haveI iZ2 := h6.blk iZ (by omega)
      haveI iP2 := h6.blk iP (by omega)
      have lP2 := iP2.le.out
      obtain ⟨X, hX⟩ : ∃ X, (dq (im zs bs m)).toArray = X := ⟨_, rfl⟩
      have HXS : Hid (X.size = 11) := Lib.hid (by rw [← hX]; rfl)
      have hX1 : X.all (·.oneCell') = true := by rw [← hX]; simp [dq, Value.oneCell']
      have HC2 := Lib.hid (HC.out m)
      rw [hX] at HC2
      have HX := Lib.hid hX
      clear hX iX iZ iP hO HR4 HC
      haveI iXX : IsBlk (w2.setCell ⟨b, 10, none⟩ (.int .i64 m)) b X 100 := by rw [← HC2.out]; infer_instance
      have hk7 : Kp R W (w2.setCell ⟨b, 10, none⟩ (.int .i64 m)) := hk2.own hlt (by omega)
      have hr7 : RdS R (w2.setCell ⟨b, 10, none⟩ (.int .i64 m)) a cap s (q2 : Nat) 0 0 := H.out.rd.own h5 hk2 (by omega)
      have HSET : Hid (((w2.setCell ⟨b, 10, none⟩ (.int .i64 m)).setCells (W.heap.size + 1) 0 X.toList).heap[W.heap.size + 1]? = some (.cells X 100)) := Lib.hid (by
       rw [ap _ (inferInstance : IsBlk (w2.setCell ⟨b, 10, none⟩ (.int .i64 m)) (W.heap.size + 1) Z 100).out, yp (by rw [HZS.out, HXS.out])])
      go_wp2_with (first | (refine ax 100 _ (C := X) rfl rfl rfl Tryz.underlying100 rfl (by rw [HXS.out]; kernel_rfl) ?_; go_simp) | (refine ac (o := 0) (cs := X) (C := Z) 100 rfl rfl rfl rfl (by rw [HZS.out, HXS.out]; exact Nat.le_refl _) (by rw [HXS.out]; kernel_rfl) hX1 ?_; go_simp))
      refine bodyPost_ret (results_cell_row (p := 2) (ty := 100) rfl _ _ (W.heap.size + 1) 100 X (0, 0) _ rfl HSET.out Tryz.underlying100 rfl (by rw [HXS.out]; kernel_rfl)) rfl ?_
      exact aG.yes HR5.out (by unfold si; rw [HX.out]) h4 (H.out.rd.owns hr7 hk7 (by omega)) (hk7.owns hlt (by omega))
end
section
open Go.RowKit Go.Shelf
attribute [local go_sem] IsBlk.cell IsBlk.frozen
def rU (a : Option Addr) (n c : Nat) : Array Value := aj.setIfInBounds 113 (.slice a n c)
theorem dX {ops : Array Oper} {rest : List Oper} {op : Oper} {a : Act} {w : World} {Q : Exit → Act → World → Prop} {x : Operand} {ad : Option Addr} {n c : Nat} (hgd : op.guard = none) (ho : op.op = .build 34 #[(3, x)])
  (hx : a.eval x = .slice ad n c) (h : wpList Tryz.prog ops Q rest (a.put op.dst (.agg (rU ad n c))) w) : wpList Tryz.prog ops Q (op :: rest) a w := by
 have e : Sem.run Tryz.prog (execOp a.eval op) w = .ok (.value (.agg (rU ad n c))) w := by
  unfold execOp
  simp only [ho, List.map_toArray, List.map_cons, List.map_nil, hx]
  kernel_rfl
 refine wpList_plain hgd fun _ hK => ?_
 unfold Oper.wp
 rw [e]
 exact hK _ _ h
def dD (d : Det) : Tab := ⟨fun _ => vz, [], fun _ => 0, [d], [], [], 0, 0, 0, 0, 0, fun _ => 0, 0, 0⟩
theorem sj (d : Det) (a : Option Addr) (n c : Nat) : rU a n c = aS 131 (ah (dD d) (.slice none 0 0) (.slice a n c) (.slice none 0 0) (.slice none 0 0)) := by kernel_rfl
theorem tn {w : World} {b : Nat} {d : Det} {t : TypeId} (hb : w.heap[b]? = some (.cells (aQ d).toArray t)) : ag w (rU (some ⟨b, 0, none⟩) 1 1) (dD d) := by
 refine ⟨_, _, _, _, sj d _ _ _, ⟨⟨none, 0, fun _ _ => (none, 0), rfl, .inl rfl, fun i hi => by simp [dD] at hi⟩, ⟨_, _, rfl, .inr ⟨b, 0, rfl, (Array.getElem?_eq_some_iff.1 hb).1, fun i hi j hj => ?_⟩⟩, ⟨_, _, rfl, .inl rfl⟩, ⟨_, _, rfl, .inl rfl⟩, by simp [dD], by intro i j; simp [dD, ak], by simp [dD], by simp [dD], by simp [dD]⟩⟩
 have : i = 0 := by simp [dD] at hi; omega
 subst this
 refine aV hb _ ?_
 simp only [aF, dD, Nat.zero_mul, Nat.add_zero, Nat.zero_add, List.getElem?_cons_zero, Option.bind_some, List.getElem?_toArray]
 rw [List.getElem?_eq_getElem (by show j < 7; exact hj)]
 rfl
theorem aez (d : Det) : dS (dD d) = eU d := by
 have h1 : ((List.range 8).all fun p => gq ((dD d).ph p)) = true := by show ((List.range 8).all fun p => gq vz) = true; decide
 have h2 : bH 255 ((List.range 8).map (dD d).cf) = true := by show bH 255 ((List.range 8).map fun _ => 0) = true; decide
 have h3 : bH 2 ((List.range 8).map (dD d).fl) = true := by show bH 2 ((List.range 8).map fun _ => 0) = true; decide
 unfold dS
 rw [h1, h2, h3]
 simp [dD, bH]
def xM (k v : Nat) : Det := match k with
 | 1 => ⟨0, v, 4607182418800017408, 0, 0, 0, 0⟩
 | 2 => ⟨0, 4607182418800017408, v, 0, 0, 0, 0⟩
 | 3 => ⟨0, 4607182418800017408, 4607182418800017408, v, 0, 0, 0⟩
 | _ => ⟨0, 4607182418800017408, 4607182418800017408, 0, v, 0, 0⟩
def vx (k : Nat) : Nat → Bool := if k ≤ 2 then ec else dE
theorem uD : ec 4607182418800017408 = true := by kernel_rfl
theorem tV : dE 0 = true := by kernel_rfl
theorem uR {k : Nat} (hk : k = 1 ∨ k = 2 ∨ k = 3 ∨ k = 4) (v : Nat) : dS (dD (xM k v)) = vx k v := by
 rw [aez]
 rcases hk with rfl | rfl | rfl | rfl <;> simp [eU, xM, vx, uD, tV, bH]
def kj : World → Nat → Value → Prop := fun _ n v => v = .float .f64 n
theorem wH {s : List Int} {p : Nat} (ok : Nat → Bool) (hby : aH s) (hp : p + 8 ≤ s.length) : gd ok (s.drop p) = if ok (bg 0 (yy s p 8)).toNat = true then some ((bg 0 (yy s p 8)).toNat, s.drop (p + 8)) else none := by
 have hb := gL (yy s p 8) 0 (by omega) (ic hby p 8)
 rw [j8 hp] at hb
 have e8 : (256 : Int) ^ 8 = 18446744073709551616 := by decide
 unfold gd Pz.bind
 rw [lI hp, if_pos (by omega)]
theorem wL {s : List Int} {p : Nat} (ok : Nat → Bool) (hp : s.length < p + 8) : gd ok (s.drop p) = none := by
 have : bY 8 0 18446744073709551615 (s.drop p) = none := by unfold bY; rw [if_pos (by rw [List.length_drop]; omega)]
 unfold gd Pz.bind
 rw [this]
theorem od (R : Nat) (W : World) (a : Option Addr) (cap : Nat) (s : List Int) (p g : Nat) (ok : Nat → Bool) (h : RdP R W a cap s p) (hp : s.length < p + 8) :
  Calls Tryz.prog 173 #[.agg #[.pointer (some ⟨R, 0, none⟩)], .func (.func g) #[] #[]] W fun e w' => aG R W w' a cap s kj (gd ok (s.drop p)) e := by
 have hlt := h.rd.lt
 have hle := h.le
 have H := Lib.hid h
 rw [wL ok hp]
 clear h
 go_enter Tryz.func173, Tryz.ntmps173
 go_wp2_with fail
 go_at_call 44; refine (jh R _ a cap s p 0 0 (H.out.rd.below (by exact yd))).mono ?_; rintro e w' ⟨rfl, rfl⟩
 go_wp2_with fail
 go_at_call 208; refine (r8 R _ a cap s p (H.out.rd.below (by exact yd)) H.out.ln hle hp).mono ?_; rintro e w1 ⟨rfl, hr1, hk1⟩
 haveI iX : IsBlk w1 W.heap.size #[.pointer (some ⟨R, 0, none⟩)] 120 := hk1.blk (b := W.heap.size) inferInstance (by omega)
 go_wp2_with fail
 go_at_call 120; refine (iw R w1 _ cap s _ 2 s.length hr1 (by decide)).mono ?_; rintro e w' ⟨he, hb⟩; unfold aW dt at he; subst he
 exact ⟨rfl, 2, s.length, rfl, by decide, by omega, by omega, (hk1.alloc _ hlt).trans (Kp.of hb hr1.lt)⟩
theorem abP (k : Nat) (hk : k = 1 ∨ k = 2 ∨ k = 3 ∨ k = 4) (R : Nat) (W : World) (b off cap : Nat) (s : List Int) (p g : Nat) (eg : Enters Tryz.prog g) (hg : ∀ W b, Calls Tryz.prog g #[.pointer (some ⟨b, 0, none⟩)] W fun e w' => e = .returned (.pointer (some ⟨b, k, none⟩)) ∧ W = w')
  (h : RdP R W (some ⟨b, off, none⟩) cap s p) (hp : p + 8 ≤ s.length) :
  Calls Tryz.prog 173 #[.agg #[.pointer (some ⟨R, 0, none⟩)], .func (.func g) #[] #[]] W fun e w' => aG R W w' (some ⟨b, off, none⟩) cap s kj (gd (vx k) (s.drop p)) e := by
 have hlt := h.rd.lt
 have hle := h.le
 have hln := h.ln
 have H := Lib.hid h
 rw [wH (vx k) h.by' hp]
 have HG := Lib.hid hg
 clear h hg
 unfold Enters at eg
 have HFL : Hid (∀ W', Below W.heap.size W W' → Calls Tryz.prog 208 #[.pointer (some ⟨R, 0, none⟩)] W' fun e w' => e = .returned (.float .f64 (bg 0 (yy s p 8)).toNat) ∧ RdS R w' (some ⟨b, off, none⟩) cap s (p + 8 : Nat) 0 0 ∧ Kp R W' w') := Lib.hid fun W' hb => uP R W' b off cap s p (H.out.rd.below hb) H.out.ln hp H.out.cp H.out.by'
 generalize (bg 0 (yy s p 8)).toNat = v at *
 have HM : Hid (∀ w b C t, IsBlk w b C t → C = (aQ (xM k v)).toArray → Calls Tryz.prog 49 #[.agg (rU (some ⟨b, 0, none⟩) 1 1)] w fun e w' => e = .returned (.bool (vx k v)) ∧ ∃ u : Up w, w' = u.w) := Lib.hid fun w b C t hb hC => by
  subst hC
  have := Up.run (gN _ _ w (tn hb.out))
  rw [uR hk] at this; exact this
 generalize vx k v = o at *
 go_enter Tryz.func173, Tryz.ntmps173
 go_wp2_with fail
 go_at_call 44; refine (jh R _ _ cap s p 0 0 (H.out.rd.below (by exact yd))).mono ?_; rintro e w' ⟨rfl, rfl⟩
 go_wp2_with fail
 go_at_call 208; refine (HFL.out _ (by exact yd)).mono ?_; rintro e w1 ⟨rfl, hr1, hk1⟩
 haveI iX : IsBlk w1 W.heap.size #[.pointer (some ⟨R, 0, none⟩)] 120 := hk1.blk (b := W.heap.size) inferInstance (by omega)
 go_wp2_with fail
 go_at_call 120; refine (Up.run (il R w1 _ cap s _ 0 hr1)).mono ?_; rintro e w' ⟨rfl, u, rfl⟩
 have hku : Kp R W u.w := (hk1.alloc _ hlt).trans (Kp.of u.bel hr1.lt)
 have hru := hr1.below u.bel
 have hRu := hru.lt
 clear hr1 hk1 HFL iX
 generalize u.w = U at *
 rcases hk with rfl | rfl | rfl | rfl
 all_goals
  cases o
  ·go_wp2_with fail
   refine (HG.out _ _).mono ?_; rintro e w' ⟨rfl, rfl⟩
   go_wp2_with (refine dX rfl rfl rfl ?_; go_simp)
   go_at_call 49; refine (HM.out _ _ _ _ inferInstance rfl).mono ?_; rintro e w' ⟨rfl, u2, rfl⟩
   go_wp2_with fail
   exact ⟨rfl, 4, p, rfl, by decide, by omega, by omega, hku.trans (Kp.of (by exact yd) hRu)⟩
  ·go_wp2_with fail
   refine (HG.out _ _).mono ?_; rintro e w' ⟨rfl, rfl⟩
   go_wp2_with (refine dX rfl rfl rfl ?_; go_simp)
   go_at_call 49; refine (HM.out _ _ _ _ inferInstance rfl).mono ?_; rintro e w' ⟨rfl, u2, rfl⟩
   go_wp2_with fail
   go_ret
   exact ⟨_, p + 8, rfl, rfl, rfl, hp, hru.below (by exact yd), hku.trans (Kp.of (by exact yd) hRu)⟩
end
section
open Go.RowKit Go.Shelf
attribute [local go_sem] IsBlk.cell IsBlk.frozen
def wS : World → Det → Value → Prop := fun _ x v => v = .agg (aQ x).toArray
theorem eI (k : Nat) (hk : k = 1 ∨ k = 2 ∨ k = 3 ∨ k = 4) (g : Nat) (eg : Enters Tryz.prog g) (hg : ∀ W b, Calls Tryz.prog g #[.pointer (some ⟨b, 0, none⟩)] W fun e w' => e = .returned (.pointer (some ⟨b, k, none⟩)) ∧ W = w')
  (R : Nat) (W : World) (a : Option Addr) (cap : Nat) (s : List Int) (p : Nat) (h : RdP R W a cap s p) :
  Calls Tryz.prog 173 #[.agg #[.pointer (some ⟨R, 0, none⟩)], .func (.func g) #[] #[]] W fun e w' => aG R W w' a cap s kj (gd (vx k) (s.drop p)) e := by
 by_cases hp : p + 8 ≤ s.length
 ·obtain ⟨b, off, rfl, _⟩ := h.rd.byt.resolve_left (by omega)
  exact abP k hk R W b off cap s p g eg hg h hp
 ·exact od R W a cap s p g (vx k) h (by omega)
theorem hg1 (W : World) (b : Nat) : Calls Tryz.prog 174 #[.pointer (some ⟨b, 0, none⟩)] W fun e w' => e = .returned (.pointer (some ⟨b, 1, none⟩)) ∧ W = w' := by
 go_enter Tryz.func174, Tryz.ntmps174
 go_wp2
 go_ret
 exact ⟨rfl, rfl⟩
theorem xY : Enters Tryz.prog 174 := enters_of Tryz.func174 (by kernel_rfl) rfl
theorem vV (W : World) (b : Nat) : Calls Tryz.prog 175 #[.pointer (some ⟨b, 0, none⟩)] W fun e w' => e = .returned (.pointer (some ⟨b, 2, none⟩)) ∧ W = w' := by
 go_enter Tryz.func175, Tryz.ntmps175
 go_wp2
 go_ret
 exact ⟨rfl, rfl⟩
theorem xZ : Enters Tryz.prog 175 := enters_of Tryz.func175 (by kernel_rfl) rfl
theorem yb (W : World) (b : Nat) : Calls Tryz.prog 176 #[.pointer (some ⟨b, 0, none⟩)] W fun e w' => e = .returned (.pointer (some ⟨b, 3, none⟩)) ∧ W = w' := by
 go_enter Tryz.func176, Tryz.ntmps176
 go_wp2
 go_ret
 exact ⟨rfl, rfl⟩
theorem xX : Enters Tryz.prog 176 := enters_of Tryz.func176 (by kernel_rfl) rfl
theorem ya (W : World) (b : Nat) : Calls Tryz.prog 177 #[.pointer (some ⟨b, 0, none⟩)] W fun e w' => e = .returned (.pointer (some ⟨b, 4, none⟩)) ∧ W = w' := by
 go_enter Tryz.func177, Tryz.ntmps177
 go_wp2
 go_ret
 exact ⟨rfl, rfl⟩
theorem yc : Enters Tryz.prog 177 := enters_of Tryz.func177 (by kernel_rfl) rfl
theorem sG (R : Nat) (W : World) (a : Option Addr) (cap : Nat) (s : List Int) (p : Nat) (h : RdP R W a cap s p) :
  Calls Tryz.prog 124 #[.agg #[.pointer (some ⟨R, 0, none⟩)]] W fun e w' => aG R W w' a cap s wS (l4 (s.drop p)) e := by
 have hlt := h.rd.lt
 have H := Lib.hid h
 clear h
 go_enter Tryz.func124, Tryz.ntmps124
 go_wp2_with fail
 go_at_call 42; refine (bx R _ a cap s p 1 0 7 (H.out.below (by exact yd)) (by omega) (by omega)).mono ?_; rintro e w1 h1
 cases hO : bY 1 0 7 (s.drop p) with
 | none =>
  rw [hO] at h1
  obtain ⟨c, f, he, h2, h3, h4, h5⟩ := h1
  unfold aW dt at he; subst he
  exact ⟨rfl, aG.no (by unfold l4; exact Pz.none hO) h2 h3 h4 ((h5.alloc _ (by simp; omega)).alloc _ hlt)⟩
 | some x =>
  obtain ⟨ph, r⟩ := x
  have HR0 : Hid (l4 (s.drop p) = ((gd ec).bind fun on => (gd ec).bind fun off => (gd dE).bind fun dl => (gd dE).bind fun ex => (dU).bind fun mon => (dU).bind fun mof => Pz.pure ⟨ph, on, off, dl, ex, mon, mof⟩ : Pz Det) r) := Lib.hid (by unfold l4; exact Pz.some hO)
  rw [hO] at h1
  obtain ⟨v, q0, rfl, rfl, rfl, h4, h5, h6⟩ := h1
  haveI iX : IsBlk w1 W.heap.size #[.pointer (some ⟨R, 0, none⟩)] 120 := h6.blk (b := W.heap.size) inferInstance (by omega)
  haveI iZ : IsBlk w1 (W.heap.size + 1) (aQ oR).toArray 58 := h6.blk (b := W.heap.size + 1) inferInstance (by omega)
  have hk1 : Kp R W w1 := (h6.alloc _ (by simp; omega)).alloc _ hlt
  clear h6 hO
  have hs1 := hk1.size
  have lZ := iZ.le.out
  go_wp2_with fail
  have hq0 := h4
  have hr0 : RdS R (w1.alloc (.cells #[.int .i64 ph, .float .f64 0, .float .f64 0, .float .f64 0, .float .f64 0, .int .i64 0, .int .i64 0] 58)) a cap s (q0 : Nat) 0 0 := h5.more _
  have hk0 : Kp R W (w1.alloc (.cells #[.int .i64 ph, .float .f64 0, .float .f64 0, .float .f64 0, .float .f64 0, .int .i64 0, .int .i64 0] 58)) := hk1.more _ hlt
  have iX0 : IsBlk (w1.alloc (.cells #[.int .i64 ph, .float .f64 0, .float .f64 0, .float .f64 0, .float .f64 0, .int .i64 0, .int .i64 0] 58)) W.heap.size #[.pointer (some ⟨R, 0, none⟩)] 120 := inferInstance
  have iZ0 : IsBlk (w1.alloc (.cells #[.int .i64 ph, .float .f64 0, .float .f64 0, .float .f64 0, .float .f64 0, .int .i64 0, .int .i64 0] 58)) (W.heap.size + 1) (aQ oR).toArray 58 := inferInstance
  have iC0 : IsBlk (w1.alloc (.cells #[.int .i64 ph, .float .f64 0, .float .f64 0, .float .f64 0, .float .f64 0, .int .i64 0, .int .i64 0] 58)) w1.heap.size (aQ ⟨ph, 0, 0, 0, 0, 0, 0⟩).toArray 58 := (inferInstance : IsBlk _ _ _ _)
  have hlb : W.heap.size + 1 < w1.heap.size := by omega
  generalize (w1.alloc (.cells #[.int .i64 ph, .float .f64 0, .float .f64 0, .float .f64 0, .float .f64 0, .int .i64 0, .int .i64 0] 58)) = X0 at *
  clear iX iZ hk1 h4 h5 hs1 lZ
  generalize w1.heap.size = b at *
  obtain ⟨Z, hZ⟩ : ∃ Z, (aQ oR).toArray = Z := ⟨_, rfl⟩
  have HZS : Hid (Z.size = 7) := Lib.hid (by rw [← hZ]; rfl)
  rw [hZ] at iZ0
  clear hZ
  haveI ap1 : Apart W.heap.size b := ⟨by omega⟩
  haveI ap2 : Apart (W.heap.size + 1) b := ⟨by omega⟩
  haveI ap3 : Apart (W.heap.size + 1) W.heap.size := ⟨by omega⟩
  haveI ap4 : Apart W.heap.size (W.heap.size + 1) := ⟨by omega⟩
  haveI := iX0
  haveI := iZ0
  haveI := iC0
  have lC0 := iC0.le.out
  obtain ⟨C, hC⟩ : ∃ C, (aQ ⟨ph, 0, 0, 0, 0, 0, 0⟩).toArray = C := ⟨_, rfl⟩
  have hV : C[1]? = some (.float .f64 0) := by rw [← hC]; rfl
  have HN : Hid (∀ on, C.setIfInBounds 1 (.float .f64 on) = (aQ ⟨ph, on, 0, 0, 0, 0, 0⟩).toArray) := Lib.hid fun _ => by rw [← hC]; rfl
  rw [hC] at iC0
  haveI := iC0
  clear hC
  go_at_call 173; refine (eI 1 (by omega) _ xY hg1 R _ a cap s q0 (H.out.mk' hr0 hq0)).mono ?_; rintro e w2 h1
  cases hO : gd ec (s.drop q0) with
  | none =>
   replace h1 : aG R X0 w2 a cap s kj (gd ec (s.drop q0)) e := h1
   rw [hO] at h1
   obtain ⟨c, f, he, h2, h3, h4, h5⟩ := h1
   unfold aW dt at he; subst he
   exact ⟨rfl, aG.no (by rw [HR0.out]; exact Pz.none hO) h2 h3 h4 (hk0.trans h5)⟩
  | some x =>
   obtain ⟨on, r⟩ := x
   have HR1 : Hid (l4 (s.drop p) = ((gd ec).bind fun off => (gd dE).bind fun dl => (gd dE).bind fun ex => (dU).bind fun mon => (dU).bind fun mof => Pz.pure ⟨ph, on, off, dl, ex, mon, mof⟩ : Pz Det) r) := Lib.hid (by rw [HR0.out]; exact Pz.some hO)
   replace h1 : aG R X0 w2 a cap s kj (gd ec (s.drop q0)) e := h1
   rw [hO] at h1
   obtain ⟨v, q1, rfl, rfl, rfl, hq1, h5, h6⟩ := h1
   have hk' := hk0.trans h6
   haveI iX' := h6.blk iX0 (by omega)
   haveI iZ' := h6.blk iZ0 (by omega)
   haveI iC' := h6.blk iC0 (by omega)
   have lC' := iC'.le.out
   clear hO HR0 iX0 iZ0 iC0 hr0 hk0
   have hr1 : RdS R (w2.setCell ⟨b, 1, none⟩ (.float .f64 on)) a cap s (q1 : Nat) 0 0 := H.out.rd.own h5 hk' (by omega)
   have hk1 : Kp R W (w2.setCell ⟨b, 1, none⟩ (.float .f64 on)) := hk'.own hlt (by omega)
   have iX1 : IsBlk (w2.setCell ⟨b, 1, none⟩ (.float .f64 on)) W.heap.size _ 120 := inferInstance
   have iZ1 : IsBlk (w2.setCell ⟨b, 1, none⟩ (.float .f64 on)) (W.heap.size + 1) Z 58 := inferInstance
   have iC1 : IsBlk (w2.setCell ⟨b, 1, none⟩ (.float .f64 on)) b (aQ ⟨ph, on, 0, 0, 0, 0, 0⟩).toArray 58 := by rw [← HN.out]; infer_instance
   go_wp2_with fail
   generalize (w2.setCell ⟨b, 1, none⟩ (.float .f64 on)) = X1 at *
   clear iX' iZ' iC' HN hV hk' h5 h6 lC' w2
   haveI := iX1
   haveI := iZ1
   haveI := iC1
   have lC1 := iC1.le.out
   obtain ⟨C, hC⟩ : ∃ C, (aQ ⟨ph, on, 0, 0, 0, 0, 0⟩).toArray = C := ⟨_, rfl⟩
   have hV : C[2]? = some (.float .f64 0) := by rw [← hC]; rfl
   have HN : Hid (∀ off, C.setIfInBounds 2 (.float .f64 off) = (aQ ⟨ph, on, off, 0, 0, 0, 0⟩).toArray) := Lib.hid fun _ => by rw [← hC]; rfl
   rw [hC] at iC1
   haveI := iC1
   clear hC
   go_at_call 173; refine (eI 2 (by omega) _ xZ vV R _ a cap s q1 (H.out.mk' hr1 hq1)).mono ?_; rintro e w2 h1
   cases hO : gd ec (s.drop q1) with
   | none =>
    replace h1 : aG R X1 w2 a cap s kj (gd ec (s.drop q1)) e := h1
    rw [hO] at h1
    obtain ⟨c, f, he, h2, h3, h4, h5⟩ := h1
    unfold aW dt at he; subst he
    exact ⟨rfl, aG.no (by rw [HR1.out]; exact Pz.none hO) h2 h3 h4 (hk1.trans h5)⟩
   | some x =>
    obtain ⟨off, r⟩ := x
    have HR2 : Hid (l4 (s.drop p) = ((gd dE).bind fun dl => (gd dE).bind fun ex => (dU).bind fun mon => (dU).bind fun mof => Pz.pure ⟨ph, on, off, dl, ex, mon, mof⟩ : Pz Det) r) := Lib.hid (by rw [HR1.out]; exact Pz.some hO)
    replace h1 : aG R X1 w2 a cap s kj (gd ec (s.drop q1)) e := h1
    rw [hO] at h1
    obtain ⟨v, q2, rfl, rfl, rfl, hq2, h5, h6⟩ := h1
    have hk' := hk1.trans h6
    haveI iX' := h6.blk iX1 (by omega)
    haveI iZ' := h6.blk iZ1 (by omega)
    haveI iC' := h6.blk iC1 (by omega)
    have lC' := iC'.le.out
    clear hO HR1 iX1 iZ1 iC1 hr1 hk1
    have hr2 : RdS R (w2.setCell ⟨b, 2, none⟩ (.float .f64 off)) a cap s (q2 : Nat) 0 0 := H.out.rd.own h5 hk' (by omega)
    have hk2 : Kp R W (w2.setCell ⟨b, 2, none⟩ (.float .f64 off)) := hk'.own hlt (by omega)
    have iX2 : IsBlk (w2.setCell ⟨b, 2, none⟩ (.float .f64 off)) W.heap.size _ 120 := inferInstance
    have iZ2 : IsBlk (w2.setCell ⟨b, 2, none⟩ (.float .f64 off)) (W.heap.size + 1) Z 58 := inferInstance
    have iC2 : IsBlk (w2.setCell ⟨b, 2, none⟩ (.float .f64 off)) b (aQ ⟨ph, on, off, 0, 0, 0, 0⟩).toArray 58 := by rw [← HN.out]; infer_instance
    go_wp2_with fail
    generalize (w2.setCell ⟨b, 2, none⟩ (.float .f64 off)) = X2 at *
    clear iX' iZ' iC' HN hV hk' h5 h6 lC' w2
    haveI := iX2
    haveI := iZ2
    haveI := iC2
    have lC2 := iC2.le.out
    obtain ⟨C, hC⟩ : ∃ C, (aQ ⟨ph, on, off, 0, 0, 0, 0⟩).toArray = C := ⟨_, rfl⟩
    have hV : C[3]? = some (.float .f64 0) := by rw [← hC]; rfl
    have HN : Hid (∀ dl, C.setIfInBounds 3 (.float .f64 dl) = (aQ ⟨ph, on, off, dl, 0, 0, 0⟩).toArray) := Lib.hid fun _ => by rw [← hC]; rfl
    rw [hC] at iC2
    haveI := iC2
    clear hC
    go_at_call 173; refine (eI 3 (by omega) _ xX yb R _ a cap s q2 (H.out.mk' hr2 hq2)).mono ?_; rintro e w2 h1
    cases hO : gd dE (s.drop q2) with
    | none =>
     replace h1 : aG R X2 w2 a cap s kj (gd dE (s.drop q2)) e := h1
     rw [hO] at h1
     obtain ⟨c, f, he, h2, h3, h4, h5⟩ := h1
     unfold aW dt at he; subst he
     exact ⟨rfl, aG.no (by rw [HR2.out]; exact Pz.none hO) h2 h3 h4 (hk2.trans h5)⟩
    | some x =>
     obtain ⟨dl, r⟩ := x
     have HR3 : Hid (l4 (s.drop p) = ((gd dE).bind fun ex => (dU).bind fun mon => (dU).bind fun mof => Pz.pure ⟨ph, on, off, dl, ex, mon, mof⟩ : Pz Det) r) := Lib.hid (by rw [HR2.out]; exact Pz.some hO)
     replace h1 : aG R X2 w2 a cap s kj (gd dE (s.drop q2)) e := h1
     rw [hO] at h1
     obtain ⟨v, q3, rfl, rfl, rfl, hq3, h5, h6⟩ := h1
     have hk' := hk2.trans h6
     haveI iX' := h6.blk iX2 (by omega)
     haveI iZ' := h6.blk iZ2 (by omega)
     haveI iC' := h6.blk iC2 (by omega)
     have lC' := iC'.le.out
     clear hO HR2 iX2 iZ2 iC2 hr2 hk2
     have hr3 : RdS R (w2.setCell ⟨b, 3, none⟩ (.float .f64 dl)) a cap s (q3 : Nat) 0 0 := H.out.rd.own h5 hk' (by omega)
     have hk3 : Kp R W (w2.setCell ⟨b, 3, none⟩ (.float .f64 dl)) := hk'.own hlt (by omega)
     have iX3 : IsBlk (w2.setCell ⟨b, 3, none⟩ (.float .f64 dl)) W.heap.size _ 120 := inferInstance
     have iZ3 : IsBlk (w2.setCell ⟨b, 3, none⟩ (.float .f64 dl)) (W.heap.size + 1) Z 58 := inferInstance
     have iC3 : IsBlk (w2.setCell ⟨b, 3, none⟩ (.float .f64 dl)) b (aQ ⟨ph, on, off, dl, 0, 0, 0⟩).toArray 58 := by rw [← HN.out]; infer_instance
     go_wp2_with fail
     generalize (w2.setCell ⟨b, 3, none⟩ (.float .f64 dl)) = X3 at *
     clear iX' iZ' iC' HN hV hk' h5 h6 lC' w2
     haveI := iX3
     haveI := iZ3
     haveI := iC3
     have lC3 := iC3.le.out
     obtain ⟨C, hC⟩ : ∃ C, (aQ ⟨ph, on, off, dl, 0, 0, 0⟩).toArray = C := ⟨_, rfl⟩
     have hV : C[4]? = some (.float .f64 0) := by rw [← hC]; rfl
     have HN : Hid (∀ ex, C.setIfInBounds 4 (.float .f64 ex) = (aQ ⟨ph, on, off, dl, ex, 0, 0⟩).toArray) := Lib.hid fun _ => by rw [← hC]; rfl
     rw [hC] at iC3
     haveI := iC3
     clear hC
     go_at_call 173; refine (eI 4 (by omega) _ yc ya R _ a cap s q3 (H.out.mk' hr3 hq3)).mono ?_; rintro e w2 h1
     cases hO : gd dE (s.drop q3) with
     | none =>
      replace h1 : aG R X3 w2 a cap s kj (gd dE (s.drop q3)) e := h1
      rw [hO] at h1
      obtain ⟨c, f, he, h2, h3, h4, h5⟩ := h1
      unfold aW dt at he; subst he
      exact ⟨rfl, aG.no (by rw [HR3.out]; exact Pz.none hO) h2 h3 h4 (hk3.trans h5)⟩
     | some x =>
      obtain ⟨ex, r⟩ := x
      have HR4 : Hid (l4 (s.drop p) = ((dU).bind fun mon => (dU).bind fun mof => Pz.pure ⟨ph, on, off, dl, ex, mon, mof⟩ : Pz Det) r) := Lib.hid (by rw [HR3.out]; exact Pz.some hO)
      replace h1 : aG R X3 w2 a cap s kj (gd dE (s.drop q3)) e := h1
      rw [hO] at h1
      obtain ⟨v, q4, rfl, rfl, rfl, hq4, h5, h6⟩ := h1
      have hk' := hk3.trans h6
      haveI iX' := h6.blk iX3 (by omega)
      haveI iZ' := h6.blk iZ3 (by omega)
      haveI iC' := h6.blk iC3 (by omega)
      have lC' := iC'.le.out
      clear hO HR3 iX3 iZ3 iC3 hr3 hk3
      have hr4 : RdS R (w2.setCell ⟨b, 4, none⟩ (.float .f64 ex)) a cap s (q4 : Nat) 0 0 := H.out.rd.own h5 hk' (by omega)
      have hk4 : Kp R W (w2.setCell ⟨b, 4, none⟩ (.float .f64 ex)) := hk'.own hlt (by omega)
      have iX4 : IsBlk (w2.setCell ⟨b, 4, none⟩ (.float .f64 ex)) W.heap.size _ 120 := inferInstance
      have iZ4 : IsBlk (w2.setCell ⟨b, 4, none⟩ (.float .f64 ex)) (W.heap.size + 1) Z 58 := inferInstance
      have iC4 : IsBlk (w2.setCell ⟨b, 4, none⟩ (.float .f64 ex)) b (aQ ⟨ph, on, off, dl, ex, 0, 0⟩).toArray 58 := by rw [← HN.out]; infer_instance
      go_wp2_with fail
      generalize (w2.setCell ⟨b, 4, none⟩ (.float .f64 ex)) = X4 at *
      clear iX' iZ' iC' HN hV hk' h5 h6 lC' w2
      haveI := iX4
      haveI := iZ4
      haveI := iC4
      have lC4 := iC4.le.out
      obtain ⟨C, hC⟩ : ∃ C, (aQ ⟨ph, on, off, dl, ex, 0, 0⟩).toArray = C := ⟨_, rfl⟩
      have hV : C[5]? = some (.int .i64 0) := by rw [← hC]; rfl
      have HN : Hid (∀ mon, C.setIfInBounds 5 (.int .i64 mon) = (aQ ⟨ph, on, off, dl, ex, mon, 0⟩).toArray) := Lib.hid fun _ => by rw [← hC]; rfl
      rw [hC] at iC4
      haveI := iC4
      clear hC
      go_at_call 126; refine (dJ R _ a cap s q4 (H.out.mk' hr4 hq4)).mono ?_; rintro e w2 h1
      cases hO : dU (s.drop q4) with
      | none =>
       replace h1 : aG R X4 w2 a cap s gH (dU (s.drop q4)) e := h1
       rw [hO] at h1
       obtain ⟨c, f, he, h2, h3, h4, h5⟩ := h1
       unfold aW dt at he; subst he
       exact ⟨rfl, aG.no (by rw [HR4.out]; exact Pz.none hO) h2 h3 h4 (hk4.trans h5)⟩
      | some x =>
       obtain ⟨mon, r⟩ := x
       have HR5 : Hid (l4 (s.drop p) = ((dU).bind fun mof => Pz.pure ⟨ph, on, off, dl, ex, mon, mof⟩ : Pz Det) r) := Lib.hid (by rw [HR4.out]; exact Pz.some hO)
       replace h1 : aG R X4 w2 a cap s gH (dU (s.drop q4)) e := h1
       rw [hO] at h1
       obtain ⟨v, q5, rfl, rfl, rfl, hq5, h5, h6⟩ := h1
       have hk' := hk4.trans h6
       haveI iX' := h6.blk iX4 (by omega)
       haveI iZ' := h6.blk iZ4 (by omega)
       haveI iC' := h6.blk iC4 (by omega)
       have lC' := iC'.le.out
       clear hO HR4 iX4 iZ4 iC4 hr4 hk4
       have hr5 : RdS R (w2.setCell ⟨b, 5, none⟩ (.int .i64 mon)) a cap s (q5 : Nat) 0 0 := H.out.rd.own h5 hk' (by omega)
       have hk5 : Kp R W (w2.setCell ⟨b, 5, none⟩ (.int .i64 mon)) := hk'.own hlt (by omega)
       have iX5 : IsBlk (w2.setCell ⟨b, 5, none⟩ (.int .i64 mon)) W.heap.size _ 120 := inferInstance
       have iZ5 : IsBlk (w2.setCell ⟨b, 5, none⟩ (.int .i64 mon)) (W.heap.size + 1) Z 58 := inferInstance
       have iC5 : IsBlk (w2.setCell ⟨b, 5, none⟩ (.int .i64 mon)) b (aQ ⟨ph, on, off, dl, ex, mon, 0⟩).toArray 58 := by rw [← HN.out]; infer_instance
       go_wp2_with fail
       generalize (w2.setCell ⟨b, 5, none⟩ (.int .i64 mon)) = X5 at *
       clear iX' iZ' iC' HN hV hk' h5 h6 lC' w2
       haveI := iX5
       haveI := iZ5
       haveI := iC5
       have lC5 := iC5.le.out
       obtain ⟨C, hC⟩ : ∃ C, (aQ ⟨ph, on, off, dl, ex, mon, 0⟩).toArray = C := ⟨_, rfl⟩
       have hV : C[6]? = some (.int .i64 0) := by rw [← hC]; rfl
       have HN : Hid (∀ mof, C.setIfInBounds 6 (.int .i64 mof) = (aQ ⟨ph, on, off, dl, ex, mon, mof⟩).toArray) := Lib.hid fun _ => by rw [← hC]; rfl
       rw [hC] at iC5
       haveI := iC5
       clear hC
       go_at_call 126; refine (dJ R _ a cap s q5 (H.out.mk' hr5 hq5)).mono ?_; rintro e w2 h1
       cases hO : dU (s.drop q5) with
       | none =>
        replace h1 : aG R X5 w2 a cap s gH (dU (s.drop q5)) e := h1
        rw [hO] at h1
        obtain ⟨c, f, he, h2, h3, h4, h5⟩ := h1
        unfold aW dt at he; subst he
        exact ⟨rfl, aG.no (by rw [HR5.out]; exact Pz.none hO) h2 h3 h4 (hk5.trans h5)⟩
       | some x =>
        obtain ⟨mof, r⟩ := x
        have HR6 : Hid (l4 (s.drop p) = (Pz.pure ⟨ph, on, off, dl, ex, mon, mof⟩ : Pz Det) r) := Lib.hid (by rw [HR5.out]; exact Pz.some hO)
        replace h1 : aG R X5 w2 a cap s gH (dU (s.drop q5)) e := h1
        rw [hO] at h1
        obtain ⟨v, q6, rfl, rfl, rfl, hq6, h5, h6⟩ := h1
        have hk' := hk5.trans h6
        haveI iX' := h6.blk iX5 (by omega)
        haveI iZ' := h6.blk iZ5 (by omega)
        haveI iC' := h6.blk iC5 (by omega)
        have lC' := iC'.le.out
        clear hO HR5 iX5 iZ5 iC5 hr5 hk5
        have hr6 : RdS R (w2.setCell ⟨b, 6, none⟩ (.int .i64 mof)) a cap s (q6 : Nat) 0 0 := H.out.rd.own h5 hk' (by omega)
        have hk6 : Kp R W (w2.setCell ⟨b, 6, none⟩ (.int .i64 mof)) := hk'.own hlt (by omega)
        have iX6 : IsBlk (w2.setCell ⟨b, 6, none⟩ (.int .i64 mof)) W.heap.size _ 120 := inferInstance
        have iZ6 : IsBlk (w2.setCell ⟨b, 6, none⟩ (.int .i64 mof)) (W.heap.size + 1) Z 58 := inferInstance
        have iC6 : IsBlk (w2.setCell ⟨b, 6, none⟩ (.int .i64 mof)) b (aQ ⟨ph, on, off, dl, ex, mon, mof⟩).toArray 58 := by rw [← HN.out]; infer_instance
        obtain ⟨X, hX⟩ : ∃ X, (aQ ⟨ph, on, off, dl, ex, mon, mof⟩).toArray = X := ⟨_, rfl⟩
        have HXS : Hid (X.size = 7) := Lib.hid (by rw [← hX]; rfl)
        have hX1 : X.all (·.oneCell') = true := by rw [← hX]; simp [aQ, Value.oneCell']
        rw [hX] at iC6
        have HX := Lib.hid hX
        clear hX
        haveI := iX6
        haveI := iZ6
        haveI := iC6
        have HSET : Hid (((w2.setCell ⟨b, 6, none⟩ (.int .i64 mof)).setCells (W.heap.size + 1) 0 X.toList).heap[W.heap.size + 1]? = some (.cells X 58)) := Lib.hid (by
         rw [ap _ iZ6.out, yp (by rw [HZS.out, HXS.out])])
        go_wp2_with (first | (refine ax 58 _ (C := X) rfl rfl rfl Tryz.underlying58 rfl (by rw [HXS.out]; kernel_rfl) ?_; go_simp) | (refine ac (o := 0) (cs := X) (C := Z) 58 rfl rfl rfl rfl (by rw [HZS.out, HXS.out]; exact Nat.le_refl _) (by rw [HXS.out]; kernel_rfl) hX1 ?_; go_simp))
        refine bodyPost_ret (results_cell_row (p := 2) (ty := 58) rfl _ _ (W.heap.size + 1) 58 X (0, 0) _ rfl HSET.out Tryz.underlying58 rfl (by rw [HXS.out]; kernel_rfl)) rfl ?_
        exact aG.yes HR6.out (by unfold wS; rw [HX.out]) hq6 (H.out.rd.owns hr6 hk6 (by omega)) (hk6.owns hlt (by omega))
end
section
open Go.RowKit
theorem aD.kp {α : Type} {e k : Nat} {C : α → List Value} {R : Nat} {w w' : World} {base : Nat} {v : Value} {xs : List α} (h : aD e k C w base v xs) (hk : Kp R w w') (hR : R < base) : aD e k C w' base v xs := by
 obtain ⟨h1, h⟩ := h
 refine ⟨h1, ?_⟩
 rcases h with h | ⟨g, cap, cur, e, hg, hc, h3, h4, h5, h6⟩
 ·exact .inl h
 ·exact .inr ⟨g, cap, cur, e, hg, by rw [hk.same _ (by omega) (Array.getElem?_eq_some_iff.1 hc).1]; exact hc, h3, h4, h5, h6⟩
theorem bK.kp {R : Nat} {w w' : World} {base : Nat} {hs : List (Value × Value)} {gr : List (List Int × List Int)} (h : bK w base hs gr) (hk : Kp R w w') (hR : R < base) : bK w' base hs gr :=
 ⟨h.1, fun i p x hp hx => ⟨(h.2 i p x hp hx).1.kp hk hR, (h.2 i p x hp hx).2.kp hk hR⟩⟩
theorem TB.base {w0 wr : World} {b : Nat} {t : Tab} {vg vd vr vb : Value} (h : TB w0 wr b t vg vd vr vb) : TB wr wr b t vg vd vr vb := ⟨h.blk, h.gr, h.de, h.ra, h.bu, h.bd, Below.refl _ _⟩
theorem TB.kp {w0 wr w' : World} {b R : Nat} {t : Tab} {vg vd vr vb : Value} (h : TB w0 wr b t vg vd vr vb) (k : Kp R wr w') (hR : R < b) : TB w' w' b t vg vd vr vb := by
 obtain ⟨hs, h1, h2⟩ := h.gr
 exact ⟨by rw [k.same b (by omega) h.lt]; exact h.blk, ⟨hs, aD.kp (C := fI) h1 k (by omega), h2.kp k (by omega)⟩, h.de.kp k (by omega), h.ra.kp k (by omega), h.bu.kp k (by omega), h.bd, Below.refl _ _⟩
structure Agr (B : Nat) (w w' : World) : Prop where
 size : w.heap.size ≤ w'.heap.size
 same : ∀ j, B ≤ j → j < w.heap.size → w'.heap[j]? = w.heap[j]?
theorem ae.agr {B : Nat} {w w' : World} {base : Nat} {v : Value} {zs : List Int} (h : ae w base v zs) (ha : Agr B w w') (hB : B ≤ base) : ae w' base v zs := by
 obtain ⟨h1, h⟩ := h
 refine ⟨h1, ?_⟩
 rcases h with h | ⟨g, cap, cur, e, hg, hc, h3, h4, h5, h6⟩
 ·exact .inl h
 ·exact .inr ⟨g, cap, cur, e, hg, by rw [ha.same _ (by omega) (Array.getElem?_eq_some_iff.1 hc).1]; exact hc, h3, h4, h5, h6⟩
theorem aD.agr {α : Type} {e k : Nat} {C : α → List Value} {B : Nat} {w w' : World} {base : Nat} {v : Value} {xs : List α} (h : aD e k C w base v xs) (ha : Agr B w w') (hB : B ≤ base) : aD e k C w' base v xs := by
 obtain ⟨h1, h⟩ := h
 refine ⟨h1, ?_⟩
 rcases h with h | ⟨g, cap, cur, e, hg, hc, h3, h4, h5, h6⟩
 ·exact .inl h
 ·exact .inr ⟨g, cap, cur, e, hg, by rw [ha.same _ (by omega) (Array.getElem?_eq_some_iff.1 hc).1]; exact hc, h3, h4, h5, h6⟩
theorem TB.agr {w0 wr w' : World} {b B : Nat} {t : Tab} {vg vd vr vb : Value} (h : TB w0 wr b t vg vd vr vb) (ha : Agr B wr w') (hB : B ≤ b) : TB w' w' b t vg vd vr vb := by
 obtain ⟨hs, h1, h2⟩ := h.gr
 exact ⟨by rw [ha.same b hB h.lt]; exact h.blk, ⟨hs, aD.agr (C := fI) h1 ha (by omega), ⟨h2.1, fun i p x hp hx => ⟨(h2.2 i p x hp hx).1.agr ha (by omega), (h2.2 i p x hp hx).2.agr ha (by omega)⟩⟩⟩, h.de.agr ha (by omega), h.ra.agr ha (by omega), h.bu.agr ha (by omega), h.bd, Below.refl _ _⟩
theorem TB.appGr {w0 wr w1 : World} {b : Nat} {hs : List (Value × Value)} {p : Value × Value} {x : List Int × List Int} {v' : Value} {ph : Nat → Phs} {gr : List (List Int × List Int)} {cf : Nat → Int} {de : List Det} {ra : List Rl} {bu : List Bus} {e0 e1 e2 e3 e4 : Int} {fl : Nat → Int} {wn sh : Int} {vg vd vr vb : Value} (h : TB w0 wr b ⟨ph, gr, cf, de, ra, bu, e0, e1, e2, e3, e4, fl, wn, sh⟩ vg vd vr vb)
  (h1 : ew wr (b + 1) vg hs) (h2 : bK wr (b + 1) hs gr) (o1 : ae wr (b + 1) p.1 x.1) (o2 : ae wr (b + 1) p.2 x.2) (hg : wr.grownBy w1 vg.ownBlock) (hn : ew w1 (b + 1) v' (hs ++ [p])) (hl : gr.length < 8) (l1 : x.1.length ≤ 8) (l2 : x.2.length ≤ 8) :
  TB w0 (w1.setCell ⟨b, 104, none⟩ v') b ⟨ph, gr ++ [x], cf, de, ra, bu, e0, e1, e2, e3, e4, fl, wn, sh⟩ v' vd vr vb := by
 obtain ⟨a1, _, a3, a4, a5, a6⟩ := h.append h1 hg
 have hb := cQ w1 b 104 v'
 have n := h.bd
 have q2 := h2.kept hg fun v xs h => fw (by decide) h1 h
 have q1 := o1.kept hg (fw (by decide) h1 o1)
 have q3 := o2.kept hg (fw (by decide) h1 o2)
 refine ⟨?_, ⟨hs ++ [p], aD.kept (C := fI) hn hb (.inr (aD.ne (C := fI) hn (by omega))), (q2.snoc q1 q3).kept hb fun v xs h => .inr (h.ne (by omega))⟩, (a3 (by decide)).kept hb (.inr ((a3 (by decide)).ne (by omega))), (a4 (by decide)).kept hb (.inr ((a4 (by decide)).ne (by omega))), (a5 (by decide)).kept hb (.inr ((a5 (by decide)).ne (by omega))),
  ⟨by simp only [List.length_append, List.length_cons, List.length_nil]; omega, fun i j => ?_, n.ld, n.la, n.lb⟩, a6.setCell (p := ⟨b, 104, none⟩) (Nat.le_refl _) _⟩
 ·rw [ao a1, cW (g := ah ⟨ph, gr ++ [x], cf, de, ra, bu, e0, e1, e2, e3, e4, fl, wn, sh⟩ v' vd vr vb) (by omega) fun j hj => nu ⟨ph, gr, cf, de, ra, bu, e0, e1, e2, e3, e4, fl, wn, sh⟩ (gr ++ [x]) v' vg vd vr vb j]
 ·unfold ak
  rcases Nat.lt_trichotomy i gr.length with hi | hi | hi
  ·simp only [List.getElem?_append_left hi]; exact n.lr i j
  ·subst hi
   simp only [List.getElem?_append_right (Nat.le_refl _), Nat.sub_self, List.getElem?_cons_zero]
   split <;> assumption
  ·rw [List.getElem?_eq_none (by simp; omega)]; simp
theorem ip {α : Type} (d : α) (l : List α) (x : α) : dT (fun i => l.getD i d) l.length x = fun i => (l ++ [x]).getD i d := by
 funext i
 unfold dT
 rcases Nat.lt_trichotomy i l.length with h | h | h
 ·rw [if_neg (by omega)]; show l.getD i d = _; rw [List.getD_eq_getElem?_getD, List.getD_eq_getElem?_getD, List.getElem?_append_left h]
 ·subst h; rw [if_pos rfl, List.getD_eq_getElem?_getD, List.getElem?_append_right (Nat.le_refl _)]; simp
 ·rw [if_neg (by omega)]
  simp [List.getD, List.getElem?_eq_none (show l.length ≤ i by omega), List.getElem?_eq_none (show (l ++ [x]).length ≤ i by simp; omega)]
theorem TB.rPh {w0 wr : World} {b : Nat} {ps : List Phs} {x : Phs} {gr : List (List Int × List Int)} {cf : List Int} {de : List Det} {ra : List Rl} {bu : List Bus} {ts fl : List Int} {wn sh : Int} {vg vd vr vb : Value} (h : TB w0 wr b (af ps gr cf de ra bu ts fl wn sh) vg vd vr vb) (hp : ps.length < 8) :
  TB w0 (wr.setCells b (ps.length * 13) (cy x)) b (af (ps ++ [x]) gr cf de ra bu ts fl wn sh) vg vd vr vb := by
 have h2 := TB.putP (x := x) (p := ps.length) h hp
 rw [ip] at h2
 exact h2
theorem TB.rCf {w0 wr : World} {b : Nat} {ps : List Phs} {x : Int} {gr : List (List Int × List Int)} {cf : List Int} {de : List Det} {ra : List Rl} {bu : List Bus} {ts fl : List Int} {wn sh : Int} {vg vd vr vb : Value} (h : TB w0 wr b (af ps gr cf de ra bu ts fl wn sh) vg vd vr vb) (hp : cf.length < 8) :
  TB w0 (wr.setCell ⟨b, 105 + cf.length, none⟩ (.int .i64 x)) b (af ps gr (cf ++ [x]) de ra bu ts fl wn sh) vg vd vr vb := by
 have h2 := TB.putCf (x := x) (k := cf.length) h hp
 rw [ip] at h2
 exact h2
theorem TB.rFl {w0 wr : World} {b : Nat} {ps : List Phs} {x : Int} {gr : List (List Int × List Int)} {cf : List Int} {de : List Det} {ra : List Rl} {bu : List Bus} {ts fl : List Int} {wn sh : Int} {vg vd vr vb : Value} (h : TB w0 wr b (af ps gr cf de ra bu ts fl wn sh) vg vd vr vb) (hp : fl.length < 8) :
  TB w0 (wr.setCell ⟨b, 121 + fl.length, none⟩ (.int .i64 x)) b (af ps gr cf de ra bu ts (fl ++ [x]) wn sh) vg vd vr vb := by
 have h2 := TB.putFl (x := x) (k := fl.length) h hp
 rw [ip] at h2
 exact h2
theorem TB.rTs {w0 wr : World} {b : Nat} {ps : List Phs} {x : Int} {gr : List (List Int × List Int)} {cf : List Int} {de : List Det} {ra : List Rl} {bu : List Bus} {ts fl : List Int} {wn sh : Int} {vg vd vr vb : Value} (h : TB w0 wr b (af ps gr cf de ra bu ts fl wn sh) vg vd vr vb) (hp : ts.length < 5) :
  TB w0 (wr.setCell ⟨b, 116 + ts.length, none⟩ (.int .i64 x)) b (af ps gr cf de ra bu (ts ++ [x]) fl wn sh) vg vd vr vb := by
 match ts, hp with
 | [], _ => exact TB.putExt (x := x) h
 | [_], _ => exact TB.putBud (x := x) h
 | [_, _], _ => exact TB.putStart (x := x) h
 | [_, _, _], _ => exact TB.putRev (x := x) h
 | [_, _, _, _], _ => exact TB.putLeast (x := x) h
theorem qW : af [] [] [] [] [] [] [] [] 0 0 = ee := rfl
def xU (ps : List Phs) (gr : List (List Int × List Int)) (cf : List Int) (de : List Det) (ra : List Rl) (bu : List Bus) (ts fl : List Int) (wn : Int) : Pz Tab := (bY 4 0 2147483647).bind fun share => Pz.pure (af ps gr cf de ra bu ts fl wn share)
def K9 (ps : List Phs) (gr : List (List Int × List Int)) (cf : List Int) (de : List Det) (ra : List Rl) (bu : List Bus) (ts fl : List Int) : Pz Tab := (bY 4 0 2147483647).bind (xU ps gr cf de ra bu ts fl)
def K8 (ps : List Phs) (gr : List (List Int × List Int)) (cf : List Int) (de : List Det) (ra : List Rl) (bu : List Bus) (ts : List Int) : Pz Tab := (aB (bY 1 0 2) 8 []).bind (K9 ps gr cf de ra bu ts)
def K7 (ps : List Phs) (gr : List (List Int × List Int)) (cf : List Int) (de : List Det) (ra : List Rl) (bu : List Bus) : Pz Tab := (aB dU 5 []).bind (K8 ps gr cf de ra bu)
def K6 (ps : List Phs) (gr : List (List Int × List Int)) (cf : List Int) (de : List Det) (ra : List Rl) : Pz Tab := (bY 1 0 4).bind fun n => (aB tL n.toNat []).bind (K7 ps gr cf de ra)
def K5 (ps : List Phs) (gr : List (List Int × List Int)) (cf : List Int) (de : List Det) : Pz Tab := (bY 1 0 4).bind fun n => (aB rlP n.toNat []).bind (K6 ps gr cf de)
def K4 (ps : List Phs) (gr : List (List Int × List Int)) (cf : List Int) : Pz Tab := (bY 1 0 16).bind fun n => (aB l4 n.toNat []).bind (K5 ps gr cf)
def K3 (ps : List Phs) (gr : List (List Int × List Int)) : Pz Tab := (aB kz 8 []).bind (K4 ps gr)
def K2 (ps : List Phs) : Pz Tab := (bY 1 0 4).bind fun n => (aB sZ n.toNat []).bind (K3 ps)
theorem wR : cb = (aB mz 8 []).bind K2 := by
 have e : ∀ {α β : Type} (m : Nat) (p : Pz α) (f : List α → Pz β), (dO m p).bind f = (bY 1 0 m).bind fun n => (aB p n.toNat []).bind f := fun m p f => by
  unfold dO; rw [Pz.assoc]; simp only [ei]
 unfold cb
 simp only [e, ei]
 rfl
structure TQ (R : Nat) (W wr : World) (a : Option Addr) (cap : Nat) (s : List Int) (q : Nat) (b : Nat) (t : Tab) (vg vd vr vb : Value) : Prop where
 tb : TB wr wr b t vg vd vr vb
 rd : RdS R wr a cap s (q : Nat) 0 0
 hq : q ≤ s.length
 kp : Kp R W wr
 iX : IsBlk wr W.heap.size #[.pointer (some ⟨R, 0, none⟩)] 120
 iZ : IsBlk wr (W.heap.size + 1) aj 34
section
variable {R : Nat} {W wr w1 w2 : World} {a : Option Addr} {cap : Nat} {s : List Int} {p q q2 b : Nat} {t t' : Tab} {vg vd vr vb vg' vd' vr' vb' : Value}
theorem TQ.call (h : TQ R W wr a cap s q b t vg vd vr vb) (hb : W.heap.size + 1 < b) (hR : R < W.heap.size) (hr : RdS R w2 a cap s (q2 : Nat) 0 0) (hq : q2 ≤ s.length) (hk : Kp R wr w2) : TQ R W w2 a cap s q2 b t vg vd vr vb :=
 ⟨h.tb.kp hk (by omega), hr, hq, h.kp.trans hk, hk.blk h.iX (by omega), hk.blk h.iZ (by omega)⟩
theorem TQ.below (h : TQ R W wr a cap s q b t vg vd vr vb) (hb : W.heap.size + 1 < b) (hR : R < W.heap.size) (hk : Below wr.heap.size wr w2) : TQ R W w2 a cap s q b t vg vd vr vb :=
 h.call hb hR (h.rd.below hk) h.hq (Kp.of hk (by have := h.kp.size; omega))
theorem TQ.alloc (h : TQ R W wr a cap s q b t vg vd vr vb) (hb : W.heap.size + 1 < b) (hR : R < W.heap.size) (o : Obj) : TQ R W (wr.alloc o) a cap s q b t vg vd vr vb := h.below hb hR ((Below.refl _ _).alloc (Nat.le_refl _) _)
theorem TQ.put (h : TQ R W wr a cap s q b t vg vd vr vb) (h0 : RdS R W a cap s p 0 0) (hb : W.heap.size + 1 < b) {i : Nat} {v : Value} (ht : TB wr (wr.setCell ⟨b, i, none⟩ v) b t' vg' vd' vr' vb') : TQ R W (wr.setCell ⟨b, i, none⟩ v) a cap s q b t' vg' vd' vr' vb' := by
 have hlt := h0.lt
 haveI := h.iX; haveI := h.iZ
 haveI : Apart W.heap.size b := ⟨by omega⟩
 haveI : Apart (W.heap.size + 1) b := ⟨by omega⟩
 exact ⟨ht.base, h0.own h.rd h.kp (by omega), h.hq, h.kp.own hlt (by omega), inferInstance, inferInstance⟩
theorem TQ.puts (h : TQ R W wr a cap s q b t vg vd vr vb) (h0 : RdS R W a cap s p 0 0) (hb : W.heap.size + 1 < b) {i : Nat} {vs : List Value} (ht : TB wr (wr.setCells b i vs) b t' vg' vd' vr' vb') : TQ R W (wr.setCells b i vs) a cap s q b t' vg' vd' vr' vb' := by
 have hlt := h0.lt
 haveI := h.iX; haveI := h.iZ
 haveI : Apart W.heap.size b := ⟨by omega⟩
 haveI : Apart (W.heap.size + 1) b := ⟨by omega⟩
 exact ⟨ht.base, h0.owns h.rd h.kp (by omega), h.hq, h.kp.owns hlt (by omega), inferInstance, inferInstance⟩
theorem TQ.grow (h : TQ R W wr a cap s q b t vg vd vr vb) (h0 : RdS R W a cap s p 0 0) (hb : W.heap.size + 1 < b) {row : Option Nat} (hg : wr.grownBy w1 row) (hrow : ∀ k, row = some k → b + 1 ≤ k) {i : Nat} {v : Value} (ht : TB wr (w1.setCell ⟨b, i, none⟩ v) b t' vg' vd' vr' vb') :
  TQ R W (w1.setCell ⟨b, i, none⟩ v) a cap s q b t' vg' vd' vr' vb' := by
 have hlt := h0.lt
 have hs := h.kp.size
 have hbl := h.tb.lt
 have hk1 : Kp R W w1 := h.kp.grown hg hlt (fun k hk => by have := hrow k hk; omega)
 have hr1 : RdS R w1 a cap s (q : Nat) 0 0 := h0.grown h.rd h.kp hg (fun k hk => by have := hrow k hk; omega)
 haveI : IsBlk w1 W.heap.size #[.pointer (some ⟨R, 0, none⟩)] 120 := ⟨by rw [hg.block _ (by omega) (fun e => by have := hrow _ e.symm; omega)]; exact h.iX.out⟩
 haveI : IsBlk w1 (W.heap.size + 1) aj 34 := ⟨by rw [hg.block _ (by omega) (fun e => by have := hrow _ e.symm; omega)]; exact h.iZ.out⟩
 haveI : Apart W.heap.size b := ⟨by omega⟩
 haveI : Apart (W.heap.size + 1) b := ⟨by omega⟩
 exact ⟨ht.base, h0.own hr1 hk1 (by omega), h.hq, hk1.own hlt (by omega), inferInstance, inferInstance⟩
end
theorem aD.own {α : Type} {e k : Nat} {C : α → List Value} {w : World} {base : Nat} {v : Value} {xs : List α} (h : aD e k C w base v xs) {g : Nat} (hg : v.ownBlock = some g) : base ≤ g := by
 obtain ⟨_, h⟩ := h
 rcases h with ⟨rfl, _⟩ | ⟨g', cap, cur, rfl, hg', _⟩
 ·simp [Value.ownBlock] at hg
 ·simp [Value.ownBlock] at hg; omega
end
end Go.Proofs.YtodgfjgljcinlaaGreat
