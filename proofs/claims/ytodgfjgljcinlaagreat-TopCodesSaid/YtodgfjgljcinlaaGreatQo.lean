/- Part Qo of the proof: RdrU. -/
import Derived.Test.YtodgfjgljcinlaaGreatQg
import Derived.Test.YtodgfjgljcinlaaGreatQc
import Derived.Deep.DeepCutAuto
namespace Go.Proofs.YtodgfjgljcinlaaGreat
set_option maxHeartbeats 8000000
set_option maxRecDepth 100000
set_option linter.unusedVariables false
section
open Go.RowKit
attribute [local go_sem] IsBlk.cell IsBlk.frozen
def xO (base : Nat) : World → Tab → Value → Prop := fun w t v => ∃ T, v = .agg T ∧ ∀ w', Agr base w w' → ag w' T t
theorem py {s r l : List Int} (h : aH s) (hO : i8 s = some (l, r)) : l.length ≤ 8 := by
 have h1 := (nX.back s l r h hO).2
 simp only [dB, Bool.and_eq_true, decide_eq_true_eq] at h1
 exact h1.1
theorem sI {s r : List Int} {l : List Int} (h : i8 s = some (l, r)) : sZ s = (i8.bind fun b => Pz.pure (l, b)) r := by unfold sZ; exact Pz.some h
theorem oW (R : Nat) (W : World) (a : Option Addr) (cap : Nat) (s : List Int) (p : Nat) (h : RdP R W a cap s p) :
  Calls Tryz.prog 43 #[.agg #[.pointer (some ⟨R, 0, none⟩)]] W fun e w' => aG R W w' a cap s (xO W.heap.size) (cb (s.drop p)) e := by
 have hlt := h.rd.lt
 have H := Lib.hid h
 have hle := h.le
 clear h
 have z := lM
 have hz0 : aj.size = 131 := rfl
 have HR0 : Hid (cb (s.drop p) = (aB mz 8 []).bind K2 (s.drop p)) := Lib.hid (by rw [wR])
 go_enter Tryz.func43, Tryz.ntmps43
 obtain ⟨X, hX⟩ : ∃ X, ((W.alloc (.cells #[.pointer (some ⟨R, 0, none⟩)] 120)).alloc (.cells aj 34)).alloc (.cells aj 34) = X := ⟨_, rfl⟩
 have hTQ0 : TQ R W X a cap s p (W.heap.size + 1 + 1) ee (.slice none 0 0) (.slice none 0 0) (.slice none 0 0) (.slice none 0 0) := by
  rw [← hX]
  refine ⟨⟨?_, ⟨[], aD.nil _ _, ⟨rfl, fun i _ _ h => by simp at h⟩⟩, aD.nil _ _, aD.nil _ _, aD.nil _ _, ⟨by simp [ee], by intro i j; simp [ee, ak], by simp [ee], by simp [ee], by simp [ee]⟩, Below.refl _ _⟩, ((H.out.rd.more _).more _).more _, hle, (((Kp.refl R W).more _ hlt).more _ hlt).more _ hlt, inferInstance, inferInstance⟩
  have := aq ((W.alloc (.cells #[.pointer (some ⟨R, 0, none⟩)] 120)).alloc (.cells aj 34)) (.cells aj 34)
  rw [show ah ee (.slice none 0 0) (.slice none 0 0) (.slice none 0 0) (.slice none 0 0) = ah ee (.slice none 0 0) (.slice none 0 0) (.slice none 0 0) (.slice none 0 0) from rfl, ← jD]
  simpa using this
 rw [← qW] at hTQ0
 go_wp2
 obtain ⟨b, hb⟩ : ∃ b, W.heap.size + 1 + 1 = b := ⟨_, rfl⟩
 have hbW : W.heap.size + 1 < b := by omega
 rw [hb] at hTQ0
 try rw [hX]
 try rw [hb]
 clear hX
 go_loopw [11] (fun i wr => ∃ (j : Nat) (k : Int) (ps : List Phs) (q : Nat), j ≤ 8 ∧ Hid (k = j) ∧ i = .int .i64 k ∧ ps.length = j ∧ TQ R W wr a cap s q b (af ps [] [] [] [] [] [] [] 0 0) (.slice none 0 0) (.slice none 0 0) (.slice none 0 0) (.slice none 0 0) ∧ Hid (cb (s.drop p) = (aB mz (8 - j) ps).bind K2 (s.drop q))) (fun i _ => 8 - (intOf i).toNat)
 case atStart => exact ⟨0, 0, [], p, by omega, Lib.hid rfl, rfl, rfl, hTQ0, HR0⟩
 case round =>
  clear hTQ0 HR0
  obtain ⟨j, k, ps, q, hj, HK, rfl, hpl, hTQ, HRW⟩ := hrel
  haveI := hTQ.iX
  have lX := hTQ.tb.lt
  by_cases hj8 : j < 8
  ·obtain rfl := HK.out
   clear HK
   have hjI : (j : Int) < 8 := by omega
   go_wp2_with fail
   go_at_call 121; refine (oX R _ a cap s q (H.out.mk' hTQ.rd hTQ.hq)).mono ?_; rintro e w2 h1
   cases hO : mz (s.drop q) with
   | none =>
    rw [hO] at h1
    obtain ⟨c, f, he, h2, h3, h4, h5⟩ := h1
    unfold aW dt at he; subst he
    exact ⟨rfl, aG.no (by rw [HRW.out, show 8 - j = (8 - j - 1) + 1 by omega, yq hO]) h2 h3 h4 (hTQ.kp.trans h5)⟩
   | some x =>
    obtain ⟨x, r⟩ := x
    have HR2 : Hid (cb (s.drop p) = (aB mz (8 - (j + 1)) (ps ++ [x])).bind K2 r) := Lib.hid (by rw [HRW.out, show 8 - j = (8 - (j + 1)) + 1 by omega, bI hO])
    rw [hO] at h1
    obtain ⟨v, q2, rfl, rfl, rfl, h4, h5, h6⟩ := h1
    have hT2 := Lib.hid (hTQ.call hbW hlt h5 h4 h6)
    haveI iB : IsBlk w2 b _ _ := ⟨hT2.out.tb.blk⟩
    have hsz := aE 131 (ah (af ps [] [] [] [] [] [] [] 0 0) (.slice none 0 0) (.slice none 0 0) (.slice none 0 0) (.slice none 0 0))
    generalize aS 131 (ah (af ps [] [] [] [] [] [] [] 0 0) (.slice none 0 0) (.slice none 0 0) (.slice none 0 0) (.slice none 0 0)) = C at *
    obtain ⟨xs, hxs⟩ : ∃ xs, (cy x).toArray = xs := ⟨_, rfl⟩
    have hx13 : xs.size = 13 := by rw [← hxs]; rfl
    have hx1 : xs.all (·.oneCell') = true := by rw [← hxs]; simp [cy, Value.oneCell']
    have HXS : Hid (xs.toList = cy x) := Lib.hid (by rw [← hxs])
    rw [hxs]
    clear hxs hTQ
    go_wp2_with (refine ac (o := j * 13) (cs := xs) 26 rfl rfl rfl rfl (by omega) (by rw [hx13]; kernel_rfl) hx1 ?_; go_simp)
    go_roundw
    case rel => exact ⟨j + 1, _, ps ++ [x], q2, by omega, Lib.hid (Int.natCast_succ j).symm, rfl, by simp [hpl], by rw [HXS.out]; subst hpl; exact hT2.out.puts H.out.rd hbW (TB.rPh hT2.out.tb (by omega)), HR2⟩
    case measure => simp [intOf]; omega
  ·obtain rfl : j = 8 := by omega
   have hk8 : ¬ k < 8 := by have := HK.out; omega
   have HR3 : Hid (cb (s.drop p) = K2 ps (s.drop q)) := Lib.hid (by rw [HRW.out, Nat.sub_self, ca])
   clear HK HRW
   go_wp2_with fail
   go_at_call 42; refine (bx R _ a cap s q 1 0 4 (H.out.mk' hTQ.rd hTQ.hq) (by omega) (by omega)).mono ?_; rintro e w2 h1
   cases hO : bY 1 0 4 (s.drop q) with
   | none =>
    rw [hO] at h1
    obtain ⟨c, f, he, h2, h3, h4, h5⟩ := h1
    unfold aW dt at he; subst he
    exact ⟨rfl, aG.no (by rw [HR3.out]; exact Pz.none hO) h2 h3 h4 (hTQ.kp.trans h5)⟩
   | some x =>
    obtain ⟨n, r⟩ := x
    have hnb := nR hO
    obtain ⟨m, rfl⟩ := Int.eq_ofNat_of_zero_le hnb.1
    have HR4 : Hid (cb (s.drop p) = (aB sZ m []).bind (K3 ps) r) := Lib.hid (by rw [HR3.out]; exact Pz.some hO)
    rw [hO] at h1
    obtain ⟨v, q2, rfl, rfl, rfl, h4, h5, h6⟩ := h1
    replace hTQ := hTQ.call hbW hlt h5 h4 h6
    haveI := hTQ.iX
    have hmM : m ≤ 4 := by omega
    clear hO h4 h5 h6 hnb HR3
    go_wp2
    go_loopw [22] (fun i wr => ∃ (j : Nat) (gr : List (List Int × List Int)) (q : Nat) (vg : Value), j ≤ m ∧ i = .int .i64 j ∧ gr.length = j ∧ TQ R W wr a cap s q b (af ps gr [] [] [] [] [] [] 0 0) vg (.slice none 0 0) (.slice none 0 0) (.slice none 0 0) ∧ Hid (cb (s.drop p) = (aB sZ (m - j) gr).bind (K3 ps) (s.drop q))) (fun i _ => m - (intOf i).toNat)
    case atStart => exact ⟨0, [], q2, _, Nat.zero_le _, rfl, rfl, hTQ, HR4⟩
    case round =>
     clear hTQ HR4
     obtain ⟨j, gr, q, vg, hj, rfl, hgl, hTQ, HRW⟩ := hrel
     haveI := hTQ.iX
     have lX := hTQ.tb.lt
     by_cases hjm : j < m
     ·have hjI : (j : Int) < m := by omega
      have hsX := hTQ.kp.size
      go_wp2_with fail
      go_at_call 122; refine (m3 R _ a cap s q (H.out.mk' hTQ.rd hTQ.hq)).mono ?_; rintro e w2 h1
      cases hO : i8 (s.drop q) with
      | none =>
       rw [hO] at h1
       obtain ⟨c, f, he, h2, h3, h4, h5⟩ := h1
       unfold aW dt at he; subst he
       exact ⟨rfl, aG.no (by rw [HRW.out, show m - j = (m - j - 1) + 1 by omega, yq (by unfold sZ; exact Pz.none hO)]) h2 h3 h4 (hTQ.kp.trans h5)⟩
      | some x =>
       obtain ⟨l1, r⟩ := x
       have hl1 := py (fun y hy => H.out.by' y (List.mem_of_mem_drop hy)) hO
       rw [hO] at h1
       obtain ⟨v, q2, rfl, ho1, rfl, h4, h5, h6⟩ := h1
       have HG1 := Lib.hid (sI hO)
       have hT2 := hTQ.call hbW hlt h5 h4 h6
       replace ho1 : ae w2 (b + 1) v l1 := ae.less ho1 (by omega)
       obtain ⟨a1, c1, rfl, _⟩ := ho1.opened
       clear hO hTQ h4 h5 h6
       haveI := hT2.iX
       go_wp2
       haveI iB : IsBlk w2 b _ _ := ⟨hT2.tb.blk⟩
       have h104 : (aS 131 (ah (af ps gr [] [] [] [] [] [] 0 0) vg (.slice none 0 0) (.slice none 0 0) (.slice none 0 0)))[104]? = some vg := by rw [ab _ _ _ (by omega)]; rfl
       generalize aS 131 (ah (af ps gr [] [] [] [] [] [] 0 0) vg (.slice none 0 0) (.slice none 0 0) (.slice none 0 0)) = C at *
       (refine dr (fun w => IsBlk w b C 34 ∧ IsBlk w W.heap.size #[.pointer (some ⟨R, 0, none⟩)] 120) [0, 1, 2, 3] [4, 5, 6, 7, 8, 9] 9 (by kernel_rfl) (by kernel_rfl) (by intro d v c a w h; cases d <;> exact h) ⟨inferInstance, inferInstance⟩ ?_; simp only [bD, List.filterMap_cons, List.filterMap_nil, List.getElem?_cons_succ, List.getElem?_cons_zero]; (apply Exists.intro; refine ⟨Or.inl ⟨rfl, fun w hS => ?_⟩, ?_⟩; (focus (obtain ⟨hS0, hS1⟩ := hS; first | (simp [go_sem, *]; rfl) | (simp [go_sem]; rfl))); simp only [Act.put, List.setIfInBounds_toArray, List.set_cons_succ, List.set_cons_zero]); (apply Exists.intro; refine ⟨Or.inl ⟨rfl, fun w hS => ?_⟩, ?_⟩; (focus (obtain ⟨hS0, hS1⟩ := hS; first | (simp [go_sem, *]; rfl) | (simp [go_sem]; rfl))); simp only [Act.put, List.setIfInBounds_toArray, List.set_cons_succ, List.set_cons_zero]); (apply Exists.intro; refine ⟨Or.inl ⟨rfl, fun w hS => ?_⟩, ?_⟩; (focus (obtain ⟨hS0, hS1⟩ := hS; first | (simp [go_sem, *]; rfl) | (simp [go_sem]; rfl))); simp only [Act.put, List.setIfInBounds_toArray, List.set_cons_succ, List.set_cons_zero]); (apply Exists.intro; refine ⟨Or.inl ⟨rfl, fun w hS => ?_⟩, ?_⟩; (focus (obtain ⟨hS0, hS1⟩ := hS; first | (simp [go_sem, *]; rfl) | (simp [go_sem]; rfl))); simp only [Act.put, List.setIfInBounds_toArray, List.set_cons_succ, List.set_cons_zero]); refine cP ?_)
       have hTd := hT2.below hbW hlt ((Below.refl _ _).drew)
       replace ho1 : ae w2.drew (b + 1) (.slice a1 l1.length c1) l1 := ae.below ho1 ((Below.refl _ _).drew)
       clear hT2
       have hsX2 := hTd.kp.size
       have lX2 := hTd.tb.lt
       refine ay rfl (fun K hK => ?_)
       go_wp2_with fail
       go_at_call 122; refine (m3 R _ a cap s q2 (H.out.mk' hTd.rd hTd.hq)).mono ?_; rintro e w3 h1
       cases hO : i8 (s.drop q2) with
       | none =>
        rw [hO] at h1
        obtain ⟨c, f, he, h2, h3, h4, h5⟩ := h1
        unfold aW dt at he; subst he
        exact ⟨rfl, aG.no (by rw [HRW.out, show m - j = (m - j - 1) + 1 by omega, yq (by rw [HG1.out]; exact Pz.none hO)]) h2 h3 h4 (hTd.kp.trans h5)⟩
       | some x =>
        obtain ⟨l2, r⟩ := x
        have hl2 := py (fun y hy => H.out.by' y (List.mem_of_mem_drop hy)) hO
        have HR5 : Hid (cb (s.drop p) = (aB sZ (m - (j + 1)) (gr ++ [(l1, l2)])).bind (K3 ps) r) := Lib.hid (by rw [HRW.out, show m - j = (m - (j + 1)) + 1 by omega, bI (by rw [HG1.out]; exact Pz.some hO)])
        rw [hO] at h1
        obtain ⟨v, q3, rfl, ho2, rfl, h4, h5, h6⟩ := h1
        have hT3 := hTd.call hbW hlt h5 h4 h6
        have HT3 := Lib.hid hT3
        replace ho1 : ae w3 (b + 1) (.slice a1 l1.length c1) l1 := ae.kp ho1 h6 (by omega)
        replace ho2 : ae w3 (b + 1) v l2 := ae.less ho2 (by omega)
        obtain ⟨a2, c2, rfl, _⟩ := ho2.opened
        haveI iX3 := hT3.iX
        haveI iB3 : IsBlk w3 b C 34 := h6.blk (inferInstance : IsBlk w2.drew b C 34) (by omega)
        clear hO h4 h5 h6 hTd iB hT3
        go_wp2_with fail
        show K _ _; refine hK _ _ (fun _ => ⟨inferInstance, inferInstance⟩) ?_
        clear hK K
        refine ay rfl (fun K hK => ?_)
        go_wp2_with fail
        show K _ _; refine hK _ _ (fun _ => ⟨inferInstance, inferInstance⟩) ?_
        clear hK K
        refine ay rfl (fun K hK => ?_)
        go_wp2_with fail
        show K _ _; refine hK _ _ (fun _ => ⟨inferInstance, inferInstance⟩) ?_
        clear hK K
        have HT4 := Lib.hid (HT3.out.alloc hbW hlt (.cells #[.slice a1 l1.length c1, .slice a2 l2.length c2] 60))
        have ho1' := ho1.alloc (.cells #[.slice a1 l1.length c1, .slice a2 l2.length c2] 60)
        have ho2' := ho2.alloc (.cells #[.slice a1 l1.length c1, .slice a2 l2.length c2] 60)
        have hcell : ∀ j x, (fI (Value.slice a1 l1.length c1, Value.slice a2 l2.length c2))[j]? = some x → (w3.alloc (.cells #[.slice a1 l1.length c1, .slice a2 l2.length c2] 60)).cell? ⟨w3.heap.size, j, none⟩ = some x := fun j x hj => aV (aq _ _) j (by simpa [fI] using hj)
        obtain ⟨hs, g1, g2⟩ := HT4.out.tb.gr
        have hlen : hs.length ≤ 1000000 := by have := g2.1; have := HT4.out.tb.bd.lg; show hs.length ≤ _; simp only [af] at *; omega
        have hbs := HT4.out.tb.lt
        have hXs := HT4.out.kp.size
        haveI iX4 := HT4.out.iX
        haveI iB4 : IsBlk (w3.alloc (.cells #[.slice a1 l1.length c1, .slice a2 l2.length c2] 60)) b C 34 := inferInstance
        generalize w3.alloc (.cells #[.slice a1 l1.length c1, .slice a2 l2.length c2] 60) = w4 at *
        clear iX3 iB3 HT3 ho1 ho2
        generalize w3.heap.size = b3 at *
        refine ay rfl (fun K hK => ?_)
        refine bo pC 48 _ 28 Tryz.underlying28 pN rfl (by decide) (by decide) rfl _ _ rfl (b + 1) rfl g1 (b := b3) ((.slice a1 l1.length c1, .slice a2 l2.length c2) : Value × Value) (by simp [fI, Value.oneCell']) rfl hcell hlen (by omega) ?_
        intro v' w5 hown' hg
        have hro : ∀ k, vg.ownBlock = some k → b + 1 ≤ k := fun k hk => aD.own (C := fI) g1 hk
        have iX5 : IsBlk w5 W.heap.size #[.pointer (some ⟨R, 0, none⟩)] 120 := ⟨by rw [hg.block _ (by omega) (fun e => by have := hro _ e.symm; omega)]; exact iX4.out⟩
        haveI iB5 : IsBlk w5 b C 34 := ⟨by rw [hg.block _ (by omega) (fun e => by have := hro _ e.symm; omega)]; exact iB4.out⟩
        obtain ⟨a', n', cap', rfl⟩ := aD.slice (C := fI) hown'
        have HT5 := Lib.hid (HT4.out.grow H.out.rd hbW hg hro (TB.appGr (p := (.slice a1 l1.length c1, .slice a2 l2.length c2)) (x := (l1, l2)) HT4.out.tb g1 g2 ho1' ho2' hg hown' (by omega) hl1 hl2))
        clear hown' hg ho1' ho2' hcell g1 g2 HT4 iX4 iB4 hro hbs hXs
        show K _ _; refine hK _ _ (fun _ => ⟨iB5, iX5⟩) ?_
        clear hK K
        refine ay rfl (fun K hK => ?_)
        go_wp2_with fail
        show K _ _; refine hK _ _ (fun _ => ⟨iB5, iX5⟩) ?_
        clear hK K
        refine ay rfl (fun K hK => ?_)
        go_wp2_with fail
        show K _ _; refine hK _ _ (fun h => absurd rfl h) ?_
        clear hK K
        unfold cC
        go_wp2
        go_roundw
        case rel => exact ⟨j + 1, gr ++ [(l1, l2)], q3, _, by omega, by go_num, by simp [hgl], HT5.out, HR5⟩
        case measure => simp [intOf]; omega
     ·obtain rfl : j = m := by omega
      have HR5 : Hid (cb (s.drop p) = K3 ps gr (s.drop q)) := Lib.hid (by rw [HRW.out, Nat.sub_self, ca])
      clear HRW
      go_wp2
      go_loopw [36] (fun i wr => ∃ (j : Nat) (k : Int) (xs : List Int) (q : Nat), j ≤ 8 ∧ Hid (k = j) ∧ i = .int .i64 k ∧ xs.length = j ∧ TQ R W wr a cap s q b (af ps gr xs [] [] [] [] [] 0 0) vg (.slice none 0 0) (.slice none 0 0) (.slice none 0 0) ∧ Hid (cb (s.drop p) = (aB kz (8 - j) xs).bind (K4 ps gr) (s.drop q))) (fun i _ => 8 - (intOf i).toNat)
      case atStart => exact ⟨0, 0, [], q, by omega, Lib.hid rfl, rfl, rfl, hTQ, HR5⟩
      case round =>
       clear hTQ HR5
       obtain ⟨j, k, xs, q, hj, HK, rfl, hpl, hTQ, HRW⟩ := hrel
       haveI := hTQ.iX
       have lX := hTQ.tb.lt
       by_cases hj8 : j < 8
       ·obtain rfl := HK.out
        clear HK
        have hjI : (j : Int) < 8 := by omega
        go_wp2_with fail
        go_at_call 123; refine (aaC R _ a cap s q (H.out.mk' hTQ.rd hTQ.hq)).mono ?_; rintro e w2 h1
        cases hO : kz (s.drop q) with
        | none =>
         replace h1 : aG R wr w2 a cap s gH (kz (s.drop q)) e := h1
         rw [hO] at h1
         obtain ⟨c, f, he, h2, h3, h4, h5⟩ := h1
         unfold aW dt at he; subst he
         exact ⟨rfl, aG.no (by rw [HRW.out, show 8 - j = (8 - j - 1) + 1 by omega, yq hO]) h2 h3 h4 (hTQ.kp.trans h5)⟩
        | some x =>
         obtain ⟨x, r⟩ := x
         have HR2 : Hid (cb (s.drop p) = (aB kz (8 - (j + 1)) (xs ++ [x])).bind (K4 ps gr) r) := Lib.hid (by rw [HRW.out, show 8 - j = (8 - (j + 1)) + 1 by omega, bI hO])
         replace h1 : aG R wr w2 a cap s gH (kz (s.drop q)) e := h1
         rw [hO] at h1
         obtain ⟨v, q2, rfl, rfl, rfl, h4, h5, h6⟩ := h1
         have hT2 := Lib.hid (hTQ.call hbW hlt h5 h4 h6)
         haveI iB : IsBlk w2 b _ _ := ⟨hT2.out.tb.blk⟩
         obtain ⟨V, hV⟩ : ∃ V, (aS 131 (ah (af ps gr xs [] [] [] [] [] 0 0) vg (.slice none 0 0) (.slice none 0 0) (.slice none 0 0)))[105 + j]? = some V := ⟨_, Array.getElem?_eq_getElem (by rw [aE]; omega)⟩
         generalize aS 131 (ah (af ps gr xs [] [] [] [] [] 0 0) vg (.slice none 0 0) (.slice none 0 0) (.slice none 0 0)) = C at *
         clear hTQ h4 h5 h6 hO
         go_wp2
         go_roundw
         case rel => exact ⟨j + 1, _, xs ++ [x], q2, by omega, Lib.hid (Int.natCast_succ j).symm, rfl, by simp [hpl], by subst hpl; exact hT2.out.put H.out.rd hbW (TB.rCf hT2.out.tb (by omega)), HR2⟩
         case measure => simp [intOf]; omega
       ·obtain rfl : j = 8 := by omega
        have hk8 : ¬ k < 8 := by have := HK.out; omega
        have HR6 : Hid (cb (s.drop p) = (K4 ps gr) xs (s.drop q)) := Lib.hid (by rw [HRW.out, Nat.sub_self, ca])
        rename List Int => cf
        clear HK HRW
        go_wp2_with fail
        go_at_call 42; refine (bx R _ a cap s q 1 0 16 (H.out.mk' hTQ.rd hTQ.hq) (by omega) (by omega)).mono ?_; rintro e w2 h1
        cases hO : bY 1 0 16 (s.drop q) with
        | none =>
         rw [hO] at h1
         obtain ⟨c, f, he, h2, h3, h4, h5⟩ := h1
         unfold aW dt at he; subst he
         exact ⟨rfl, aG.no (by rw [HR6.out]; exact Pz.none hO) h2 h3 h4 (hTQ.kp.trans h5)⟩
        | some x =>
         obtain ⟨n, r⟩ := x
         have hnb := nR hO
         obtain ⟨m, rfl⟩ := Int.eq_ofNat_of_zero_le hnb.1
         have HR7 : Hid (cb (s.drop p) = (aB l4 m []).bind (K5 ps gr cf) r) := Lib.hid (by rw [HR6.out]; exact Pz.some hO)
         rw [hO] at h1
         obtain ⟨v, q2, rfl, rfl, rfl, h4, h5, h6⟩ := h1
         replace hTQ := hTQ.call hbW hlt h5 h4 h6
         haveI := hTQ.iX
         have hmM : m ≤ 16 := by omega
         clear hO h4 h5 h6 hnb HR6
         go_wp2
         go_loopw [47] (fun i wr => ∃ (j : Nat) (xs : List Det) (q : Nat) (vd : Value), j ≤ m ∧ i = .int .i64 j ∧ xs.length = j ∧ TQ R W wr a cap s q b (af ps gr cf xs [] [] [] [] 0 0) vg vd (.slice none 0 0) (.slice none 0 0) ∧ Hid (cb (s.drop p) = (aB l4 (m - j) xs).bind (K5 ps gr cf) (s.drop q))) (fun i _ => m - (intOf i).toNat)
         case atStart => exact ⟨0, [], q2, _, Nat.zero_le _, rfl, rfl, hTQ, HR7⟩
         case round =>
          clear hTQ HR7
          obtain ⟨j, xs, q, vd, hj, rfl, hgl, hTQ, HRW⟩ := hrel
          haveI := hTQ.iX
          have lX := hTQ.tb.lt
          by_cases hjm : j < m
          ·have hjI : (j : Int) < m := by omega
           have hsX := hTQ.kp.size
           go_wp2
           haveI iB : IsBlk wr b _ _ := ⟨hTQ.tb.blk⟩
           have hcl : (aS 131 (ah (af ps gr cf xs [] [] [] [] 0 0) vg vd (.slice none 0 0) (.slice none 0 0)))[113]? = some vd := by rw [ab _ _ _ (by omega)]; rfl
           generalize aS 131 (ah (af ps gr cf xs [] [] [] [] 0 0) vg vd (.slice none 0 0) (.slice none 0 0)) = C at *
           (refine dr (fun w => IsBlk w b C 34 ∧ IsBlk w W.heap.size #[.pointer (some ⟨R, 0, none⟩)] 120) [0, 1, 2] [3, 4, 5, 6, 7] 7 (by kernel_rfl) (by kernel_rfl) (by intro d v c a w h; cases d <;> exact h) ⟨inferInstance, inferInstance⟩ ?_; simp only [bD, List.filterMap_cons, List.filterMap_nil, List.getElem?_cons_succ, List.getElem?_cons_zero]; (apply Exists.intro; refine ⟨Or.inl ⟨rfl, fun w hS => ?_⟩, ?_⟩; (focus (obtain ⟨hS0, hS1⟩ := hS; first | (simp [go_sem, *]; rfl) | (simp [go_sem]; rfl))); simp only [Act.put, List.setIfInBounds_toArray, List.set_cons_succ, List.set_cons_zero]); (apply Exists.intro; refine ⟨Or.inl ⟨rfl, fun w hS => ?_⟩, ?_⟩; (focus (obtain ⟨hS0, hS1⟩ := hS; first | (simp [go_sem, *]; rfl) | (simp [go_sem]; rfl))); simp only [Act.put, List.setIfInBounds_toArray, List.set_cons_succ, List.set_cons_zero]); (apply Exists.intro; refine ⟨Or.inl ⟨rfl, fun w hS => ?_⟩, ?_⟩; (focus (obtain ⟨hS0, hS1⟩ := hS; first | (simp [go_sem, *]; rfl) | (simp [go_sem]; rfl))); simp only [Act.put, List.setIfInBounds_toArray, List.set_cons_succ, List.set_cons_zero]); refine cP ?_)
           have hTd := hTQ.below hbW hlt ((Below.refl _ _).drew)
           clear hTQ
           have hsX2 := hTd.kp.size
           have lX2 := hTd.tb.lt
           refine ay rfl (fun K hK => ?_)
           go_wp2_with fail
           go_at_call 124; refine (sG R _ a cap s q (H.out.mk' hTd.rd hTd.hq)).mono ?_; rintro e w3 h1
           cases hO : l4 (s.drop q) with
           | none =>
            rw [hO] at h1
            obtain ⟨c, f, he, h2, h3, h4, h5⟩ := h1
            unfold aW dt at he; subst he
            exact ⟨rfl, aG.no (by rw [HRW.out, show m - j = (m - j - 1) + 1 by omega, yq hO]) h2 h3 h4 (hTd.kp.trans h5)⟩
           | some x =>
            obtain ⟨x, r⟩ := x
            have HR9 : Hid (cb (s.drop p) = (aB l4 (m - (j + 1)) (xs ++ [x])).bind (K5 ps gr cf) r) := Lib.hid (by rw [HRW.out, show m - j = (m - (j + 1)) + 1 by omega, bI hO])
            rw [hO] at h1
            obtain ⟨v, q3, rfl, hv, rfl, h4, h5, h6⟩ := h1
            unfold wS aQ at hv
            subst hv
            have hT3 := hTd.call hbW hlt h5 h4 h6
            have HT3 := Lib.hid hT3
            haveI iX3 := hT3.iX
            haveI iB3 : IsBlk w3 b C 34 := h6.blk (inferInstance : IsBlk wr.drew b C 34) (by omega)
            clear hO h4 h5 h6 hTd iB hT3
            go_wp2_with fail
            show K _ _; refine hK _ _ (fun _ => ⟨inferInstance, inferInstance⟩) ?_
            clear hK K
            refine ay rfl (fun K hK => ?_)
            go_wp2_with fail
            show K _ _; refine hK _ _ (fun _ => ⟨inferInstance, inferInstance⟩) ?_
            clear hK K
            have HT4 := Lib.hid (HT3.out.alloc hbW hlt (.cells (aQ x).toArray 58))
            have hcell : ∀ j u, (aQ x)[j]? = some u → (w3.alloc (.cells (aQ x).toArray 58)).cell? ⟨w3.heap.size, j, none⟩ = some u := fun j u hj => aV (aq _ _) j (by simpa using hj)
            have iB4 : IsBlk (w3.alloc (.cells (aQ x).toArray 58)) b C 34 := inferInstance
            unfold aQ at HT4 hcell iB4
            have g1 := HT4.out.tb.de
            have hbs := HT4.out.tb.lt
            have hXs := HT4.out.kp.size
            have iX4 := HT4.out.iX
            generalize w3.alloc (.cells _ 58) = w4 at *
            clear iX3 iB3 HT3
            generalize w3.heap.size = b3 at *
            refine ay rfl (fun K hK => ?_)
            refine bo eC 56 _ 30 Tryz.underlying30 fH rfl (by decide) (by decide) rfl _ _ rfl (b + 1) rfl g1 (b := b3) x (by simp [aQ, Value.oneCell']) rfl hcell (by simp only [af]; omega) (by omega) ?_
            intro v' w5 hown' hg
            have hro : ∀ k, (vd).ownBlock = some k → b + 1 ≤ k := fun k hk => g1.own hk
            have iX5 : IsBlk w5 W.heap.size #[.pointer (some ⟨R, 0, none⟩)] 120 := ⟨by rw [hg.block _ (by omega) (fun e => by have := hro _ e.symm; omega)]; exact iX4.out⟩
            haveI iB5 : IsBlk w5 b C 34 := ⟨by rw [hg.block _ (by omega) (fun e => by have := hro _ e.symm; omega)]; exact iB4.out⟩
            obtain ⟨a', n', cap', rfl⟩ := hown'.slice
            have HT5 := Lib.hid (HT4.out.grow H.out.rd hbW hg hro (TB.appDe HT4.out.tb hg hown' (by omega)))
            clear hown' hg hcell g1 HT4 iX4 iB4 hro hbs hXs
            show K _ _; refine hK _ _ (fun _ => ⟨iB5, iX5⟩) ?_
            clear hK K
            refine ay rfl (fun K hK => ?_)
            go_wp2_with fail
            show K _ _; refine hK _ _ (fun _ => ⟨iB5, iX5⟩) ?_
            clear hK K
            refine ay rfl (fun K hK => ?_)
            go_wp2_with fail
            show K _ _; refine hK _ _ (fun h => absurd rfl h) ?_
            clear hK K
            unfold cC
            go_wp2
            go_roundw
            case rel => exact ⟨j + 1, xs ++ [x], q3, _, by omega, by go_num, by simp [hgl], HT5.out, HR9⟩
            case measure => simp [intOf]; omega
          ·obtain rfl : j = m := by omega
           have HR8 : Hid (cb (s.drop p) = K5 ps gr cf xs (s.drop q)) := Lib.hid (by rw [HRW.out, Nat.sub_self, ca])
           rename List Det => de
           clear HRW
           go_wp2_with fail
           go_at_call 42; refine (bx R _ a cap s q 1 0 4 (H.out.mk' hTQ.rd hTQ.hq) (by omega) (by omega)).mono ?_; rintro e w2 h1
           cases hO : bY 1 0 4 (s.drop q) with
           | none =>
            rw [hO] at h1
            obtain ⟨c, f, he, h2, h3, h4, h5⟩ := h1
            unfold aW dt at he; subst he
            exact ⟨rfl, aG.no (by rw [HR8.out]; exact Pz.none hO) h2 h3 h4 (hTQ.kp.trans h5)⟩
           | some x =>
            obtain ⟨n, r⟩ := x
            have hnb := nR hO
            obtain ⟨m, rfl⟩ := Int.eq_ofNat_of_zero_le hnb.1
            have HR9 : Hid (cb (s.drop p) = (aB rlP m []).bind (K6 ps gr cf de) r) := Lib.hid (by rw [HR8.out]; exact Pz.some hO)
            rw [hO] at h1
            obtain ⟨v, q2, rfl, rfl, rfl, h4, h5, h6⟩ := h1
            replace hTQ := hTQ.call hbW hlt h5 h4 h6
            haveI := hTQ.iX
            have hmM : m ≤ 4 := by omega
            clear hO h4 h5 h6 hnb HR8
            go_wp2
            go_loopw [59] (fun i wr => ∃ (j : Nat) (xs : List Rl) (q : Nat) (vr : Value), j ≤ m ∧ i = .int .i64 j ∧ xs.length = j ∧ TQ R W wr a cap s q b (af ps gr cf de xs [] [] [] 0 0) vg vd vr (.slice none 0 0) ∧ Hid (cb (s.drop p) = (aB rlP (m - j) xs).bind (K6 ps gr cf de) (s.drop q))) (fun i _ => m - (intOf i).toNat)
            case atStart => exact ⟨0, [], q2, _, Nat.zero_le _, rfl, rfl, hTQ, HR9⟩
            case round =>
             clear hTQ HR9
             obtain ⟨j, xs, q, vr, hj, rfl, hgl, hTQ, HRW⟩ := hrel
             haveI := hTQ.iX
             have lX := hTQ.tb.lt
             by_cases hjm : j < m
             ·have hjI : (j : Int) < m := by omega
              have hsX := hTQ.kp.size
              go_wp2
              haveI iB : IsBlk wr b _ _ := ⟨hTQ.tb.blk⟩
              have hcl : (aS 131 (ah (af ps gr cf de xs [] [] [] 0 0) vg vd vr (.slice none 0 0)))[114]? = some vr := by rw [ab _ _ _ (by omega)]; rfl
              generalize aS 131 (ah (af ps gr cf de xs [] [] [] 0 0) vg vd vr (.slice none 0 0)) = C at *
              (refine dr (fun w => IsBlk w b C 34 ∧ IsBlk w W.heap.size #[.pointer (some ⟨R, 0, none⟩)] 120) [0, 1, 2] [3, 4, 5, 6, 7] 7 (by kernel_rfl) (by kernel_rfl) (by intro d v c a w h; cases d <;> exact h) ⟨inferInstance, inferInstance⟩ ?_; simp only [bD, List.filterMap_cons, List.filterMap_nil, List.getElem?_cons_succ, List.getElem?_cons_zero]; (apply Exists.intro; refine ⟨Or.inl ⟨rfl, fun w hS => ?_⟩, ?_⟩; (focus (obtain ⟨hS0, hS1⟩ := hS; first | (simp [go_sem, *]; rfl) | (simp [go_sem]; rfl))); simp only [Act.put, List.setIfInBounds_toArray, List.set_cons_succ, List.set_cons_zero]); (apply Exists.intro; refine ⟨Or.inl ⟨rfl, fun w hS => ?_⟩, ?_⟩; (focus (obtain ⟨hS0, hS1⟩ := hS; first | (simp [go_sem, *]; rfl) | (simp [go_sem]; rfl))); simp only [Act.put, List.setIfInBounds_toArray, List.set_cons_succ, List.set_cons_zero]); (apply Exists.intro; refine ⟨Or.inl ⟨rfl, fun w hS => ?_⟩, ?_⟩; (focus (obtain ⟨hS0, hS1⟩ := hS; first | (simp [go_sem, *]; rfl) | (simp [go_sem]; rfl))); simp only [Act.put, List.setIfInBounds_toArray, List.set_cons_succ, List.set_cons_zero]); refine cP ?_)
              have hTd := hTQ.below hbW hlt ((Below.refl _ _).drew)
              clear hTQ
              have hsX2 := hTd.kp.size
              have lX2 := hTd.tb.lt
              refine ay rfl (fun K hK => ?_)
              go_wp2_with fail
              go_at_call 125; refine (qp R _ a cap s q (H.out.mk' hTd.rd hTd.hq)).mono ?_; rintro e w3 h1
              cases hO : rlP (s.drop q) with
              | none =>
               rw [hO] at h1
               obtain ⟨c, f, he, h2, h3, h4, h5⟩ := h1
               unfold aW dt at he; subst he
               exact ⟨rfl, aG.no (by rw [HRW.out, show m - j = (m - j - 1) + 1 by omega, yq hO]) h2 h3 h4 (hTd.kp.trans h5)⟩
              | some x =>
               obtain ⟨x, r⟩ := x
               have HR9 : Hid (cb (s.drop p) = (aB rlP (m - (j + 1)) (xs ++ [x])).bind (K6 ps gr cf de) r) := Lib.hid (by rw [HRW.out, show m - j = (m - (j + 1)) + 1 by omega, bI hO])
               rw [hO] at h1
               obtain ⟨v, q3, rfl, hv, rfl, h4, h5, h6⟩ := h1
               unfold si dq at hv
               subst hv
               have hT3 := hTd.call hbW hlt h5 h4 h6
               have HT3 := Lib.hid hT3
               haveI iX3 := hT3.iX
               haveI iB3 : IsBlk w3 b C 34 := h6.blk (inferInstance : IsBlk wr.drew b C 34) (by omega)
               clear hO h4 h5 h6 hTd iB hT3
               go_wp2_with fail
               show K _ _; refine hK _ _ (fun _ => ⟨inferInstance, inferInstance⟩) ?_
               clear hK K
               refine ay rfl (fun K hK => ?_)
               go_wp2_with fail
               show K _ _; refine hK _ _ (fun _ => ⟨inferInstance, inferInstance⟩) ?_
               clear hK K
               have HT4 := Lib.hid (HT3.out.alloc hbW hlt (.cells (dq x).toArray 100))
               have hcell : ∀ j u, (dq x)[j]? = some u → (w3.alloc (.cells (dq x).toArray 100)).cell? ⟨w3.heap.size, j, none⟩ = some u := fun j u hj => aV (aq _ _) j (by simpa using hj)
               have iB4 : IsBlk (w3.alloc (.cells (dq x).toArray 100)) b C 34 := inferInstance
               unfold dq at HT4 hcell iB4
               have g1 := HT4.out.tb.ra
               have hbs := HT4.out.tb.lt
               have hXs := HT4.out.kp.size
               have iX4 := HT4.out.iX
               generalize w3.alloc (.cells _ 100) = w4 at *
               clear iX3 iB3 HT3
               generalize w3.heap.size = b3 at *
               refine ay rfl (fun K hK => ?_)
               refine bo pt 88 _ 31 Tryz.underlying31 qi rfl (by decide) (by decide) rfl _ _ rfl (b + 1) rfl g1 (b := b3) x (by simp [dq, Value.oneCell']) rfl hcell (by simp only [af]; omega) (by omega) ?_
               intro v' w5 hown' hg
               have hro : ∀ k, (vr).ownBlock = some k → b + 1 ≤ k := fun k hk => g1.own hk
               have iX5 : IsBlk w5 W.heap.size #[.pointer (some ⟨R, 0, none⟩)] 120 := ⟨by rw [hg.block _ (by omega) (fun e => by have := hro _ e.symm; omega)]; exact iX4.out⟩
               haveI iB5 : IsBlk w5 b C 34 := ⟨by rw [hg.block _ (by omega) (fun e => by have := hro _ e.symm; omega)]; exact iB4.out⟩
               obtain ⟨a', n', cap', rfl⟩ := hown'.slice
               have HT5 := Lib.hid (HT4.out.grow H.out.rd hbW hg hro (TB.appRa HT4.out.tb hg hown' (by omega)))
               clear hown' hg hcell g1 HT4 iX4 iB4 hro hbs hXs
               show K _ _; refine hK _ _ (fun _ => ⟨iB5, iX5⟩) ?_
               clear hK K
               refine ay rfl (fun K hK => ?_)
               go_wp2_with fail
               show K _ _; refine hK _ _ (fun _ => ⟨iB5, iX5⟩) ?_
               clear hK K
               refine ay rfl (fun K hK => ?_)
               go_wp2_with fail
               show K _ _; refine hK _ _ (fun h => absurd rfl h) ?_
               clear hK K
               unfold cC
               go_wp2
               go_roundw
               case rel => exact ⟨j + 1, xs ++ [x], q3, _, by omega, by go_num, by simp [hgl], HT5.out, HR9⟩
               case measure => simp [intOf]; omega
             ·obtain rfl : j = m := by omega
              have HR10 : Hid (cb (s.drop p) = K6 ps gr cf de xs (s.drop q)) := Lib.hid (by rw [HRW.out, Nat.sub_self, ca])
              rename List Rl => ra
              clear HRW
              go_wp2_with fail
              go_at_call 42; refine (bx R _ a cap s q 1 0 4 (H.out.mk' hTQ.rd hTQ.hq) (by omega) (by omega)).mono ?_; rintro e w2 h1
              cases hO : bY 1 0 4 (s.drop q) with
              | none =>
               rw [hO] at h1
               obtain ⟨c, f, he, h2, h3, h4, h5⟩ := h1
               unfold aW dt at he; subst he
               exact ⟨rfl, aG.no (by rw [HR10.out]; exact Pz.none hO) h2 h3 h4 (hTQ.kp.trans h5)⟩
              | some x =>
               obtain ⟨n, r⟩ := x
               have hnb := nR hO
               obtain ⟨m, rfl⟩ := Int.eq_ofNat_of_zero_le hnb.1
               have HR11 : Hid (cb (s.drop p) = (aB tL m []).bind (K7 ps gr cf de ra) r) := Lib.hid (by rw [HR10.out]; exact Pz.some hO)
               rw [hO] at h1
               obtain ⟨v, q2, rfl, rfl, rfl, h4, h5, h6⟩ := h1
               replace hTQ := hTQ.call hbW hlt h5 h4 h6
               haveI := hTQ.iX
               have hmM : m ≤ 4 := by omega
               clear hO h4 h5 h6 hnb HR10
               go_wp2
               go_loopw [71] (fun i wr => ∃ (j : Nat) (xs : List Bus) (q : Nat) (vb : Value), j ≤ m ∧ i = .int .i64 j ∧ xs.length = j ∧ TQ R W wr a cap s q b (af ps gr cf de ra xs [] [] 0 0) vg vd vr vb ∧ Hid (cb (s.drop p) = (aB tL (m - j) xs).bind (K7 ps gr cf de ra) (s.drop q))) (fun i _ => m - (intOf i).toNat)
               case atStart => exact ⟨0, [], q2, _, Nat.zero_le _, rfl, rfl, hTQ, HR11⟩
               case round =>
                clear hTQ HR11
                obtain ⟨j, xs, q, vb, hj, rfl, hgl, hTQ, HRW⟩ := hrel
                haveI := hTQ.iX
                have lX := hTQ.tb.lt
                by_cases hjm : j < m
                ·have hjI : (j : Int) < m := by omega
                 have hsX := hTQ.kp.size
                 go_wp2_with fail
                 go_at_call 123; refine (aaC R _ a cap s q (H.out.mk' hTQ.rd hTQ.hq)).mono ?_; rintro e w2 h1
                 cases hO : kz (s.drop q) with
                 | none =>
                  rw [hO] at h1
                  obtain ⟨c, f, he, h2, h3, h4, h5⟩ := h1
                  unfold aW dt at he; subst he
                  exact ⟨rfl, aG.no (by rw [HRW.out, show m - j = (m - j - 1) + 1 by omega, yq (by unfold tL; exact Pz.none hO)]) h2 h3 h4 (hTQ.kp.trans h5)⟩
                 | some x =>
                  obtain ⟨bs, r⟩ := x
                  have HB1 : Hid (tL (s.drop q) = (dU.bind fun l => Pz.pure (⟨bs, l⟩ : Bus)) r) := Lib.hid (by unfold tL; exact Pz.some hO)
                  rw [hO] at h1
                  obtain ⟨v, q2, rfl, rfl, rfl, h4, h5, h6⟩ := h1
                  have hT2 := hTQ.call hbW hlt h5 h4 h6
                  clear hO hTQ h4 h5 h6
                  haveI := hT2.iX
                  have hs2 := hT2.kp.size
                  have lb2 := hT2.tb.lt
                  go_wp2_with fail
                  go_at_call 126; refine (dJ R _ a cap s q2 (H.out.mk' (hT2.rd.more _) hT2.hq)).mono ?_; rintro e w3 h1
                  cases hO : dU (s.drop q2) with
                  | none =>
                   rw [hO] at h1
                   obtain ⟨c, f, he, h2, h3, h4, h5⟩ := h1
                   unfold aW dt at he; subst he
                   exact ⟨rfl, aG.no (by rw [HRW.out, show m - j = (m - j - 1) + 1 by omega, yq (by rw [HB1.out]; exact Pz.none hO)]) h2 h3 h4 ((hT2.kp.more _ hlt).trans h5)⟩
                  | some x =>
                   obtain ⟨lk, r⟩ := x
                   have HR12 : Hid (cb (s.drop p) = (aB tL (m - (j + 1)) (xs ++ [⟨bs, lk⟩])).bind (K7 ps gr cf de ra) r) := Lib.hid (by rw [HRW.out, show m - j = (m - (j + 1)) + 1 by omega, bI (by rw [HB1.out]; exact Pz.some hO)])
                   rw [hO] at h1
                   obtain ⟨v, q3, rfl, rfl, rfl, h4, h5, h6⟩ := h1
                   have hk23 : Kp R w2 w3 := (Kp.of ((Below.refl _ _).alloc (Nat.le_refl _) _) (by omega)).trans h6
                   have hT3 := hT2.call hbW hlt (hT2.rd.own h5 hk23 (Nat.le_refl w2.heap.size)) h4 (hk23.own (b := w2.heap.size) (i := 1) (v := .int .i64 lk) (by omega) (Nat.le_refl _))
                   haveI iU3 : IsBlk w3 w2.heap.size #[.int .i64 bs, .int .i64 0] 110 := h6.blk (b := w2.heap.size) inferInstance (by omega)
                   have lU3 := iU3.le.out
                   have iX3 := hT3.iX
                   have iB3 : IsBlk (w3.setCell ⟨w2.heap.size, 1, none⟩ (.int .i64 lk)) b _ _ := ⟨hT3.tb.blk⟩
                   have iU4 : IsBlk (w3.setCell ⟨w2.heap.size, 1, none⟩ (.int .i64 lk)) w2.heap.size #[.int .i64 bs, .int .i64 lk] 110 := (inferInstance : IsBlk _ _ _ _).cast rfl
                   clear hO h4 h5 h6 hT2 hk23
                   have hcl : (aS 131 (ah (af ps gr cf de ra xs [] [] 0 0) vg vd vr vb))[115]? = some vb := by rw [ab _ _ _ (by omega)]; rfl
                   generalize aS 131 (ah (af ps gr cf de ra xs [] [] 0 0) vg vd vr vb) = C at *
                   have HT4 := Lib.hid (hT3.alloc hbW hlt (.cells #[.int .i64 bs, .int .i64 lk] 110))
                   have hcell : ∀ j y, (dm ⟨bs, lk⟩)[j]? = some y → ((w3.setCell ⟨w2.heap.size, 1, none⟩ (.int .i64 lk)).alloc (.cells #[.int .i64 bs, .int .i64 lk] 110)).cell? ⟨w3.heap.size, j, none⟩ = some y := fun j u hj => by
                    have := aV (aq (w3.setCell ⟨w2.heap.size, 1, none⟩ (.int .i64 lk)) (.cells #[.int .i64 bs, .int .i64 lk] 110)) j (v := u) (by simpa [dm] using hj)
                    simpa using this
                   have g1 := HT4.out.tb.bu
                   have hbs := HT4.out.tb.lt
                   have hXs := HT4.out.kp.size
                   have iX4 := HT4.out.iX
                   have iB4 : IsBlk ((w3.setCell ⟨w2.heap.size, 1, none⟩ (.int .i64 lk)).alloc (.cells #[.int .i64 bs, .int .i64 lk] 110)) b C 34 := inferInstance
                   have hlen5 : (af ps gr cf de ra xs [] [] 0 0).bu.length ≤ 1000000 := by simp only [af]; omega
                   clear iX3 iB3 hT3
                   haveI apB : Apart b w2.heap.size := ⟨by omega⟩
                   haveI iB6 : IsBlk w3 b C 34 := ⟨by rw [← iB4.out, Below.heap_alloc _ _ _ (by simp; omega), Below.heap_setCell _ _ _ _ (by show b ≠ w2.heap.size; omega)]⟩
                   go_wp2_with (refine bo nK 16 _ 32 Tryz.underlying32 tr rfl (by decide) (by decide) rfl _ _ rfl (b + 1) rfl g1 (b := w3.heap.size) (⟨bs, lk⟩ : Bus) (by simp [dm, Value.oneCell']) rfl hcell hlen5 (by omega) ?_)
                   intro v' w5 hown' hg
                   have hro : ∀ k, vb.ownBlock = some k → b + 1 ≤ k := fun k hk => g1.own hk
                   haveI iB5 : IsBlk w5 b C 34 := ⟨by rw [hg.block _ (by omega) (fun e => by have := hro _ e.symm; omega)]; exact iB4.out⟩
                   obtain ⟨a', n', cap', rfl⟩ := hown'.slice
                   have HT5 := Lib.hid (HT4.out.grow H.out.rd hbW hg hro (TB.appBu (x := ⟨bs, lk⟩) HT4.out.tb hg hown' (by omega)))
                   clear hown' hg hcell g1 HT4 iX4 iB4 hro hbs hXs
                   go_wp2
                   go_roundw
                   case rel => exact ⟨j + 1, xs ++ [(⟨bs, lk⟩ : Bus)], q3, _, by omega, by go_num, by simp [hgl], HT5.out, HR12⟩
                   case measure => simp [intOf]; omega
                ·obtain rfl : j = m := by omega
                 have HR12 : Hid (cb (s.drop p) = K7 ps gr cf de ra xs (s.drop q)) := Lib.hid (by rw [HRW.out, Nat.sub_self, ca])
                 rename List Bus => bu
                 clear HRW
                 have hsX := hTQ.kp.size
                 have lX := hTQ.tb.lt
                 obtain ⟨B2, hB2⟩ : ∃ B2, wr.heap.size = B2 := ⟨_, rfl⟩
                 have hbw : b < B2 := by omega
                 haveI ap4 : Apart B2 b := ⟨by omega⟩
                 go_wp2
                 go_loopw [93] (fun i wx => ∃ (j : Nat) (k : Int) (xs : List Int) (q : Nat), j ≤ 5 ∧ Hid (k = j) ∧ i = .int .i64 k ∧ xs.length = j ∧ TQ R W wx a cap s q b (af ps gr cf de ra bu xs [] 0 0) vg vd vr vb ∧ IsBlk wx B2 (gF b 116 5) 184 ∧ Hid (cb (s.drop p) = (aB dU (5 - j) xs).bind (K8 ps gr cf de ra bu) (s.drop q))) (fun i _ => 5 - (intOf i).toNat)
                 case atStart => exact ⟨0, 0, [], q, by omega, Lib.hid rfl, rfl, rfl, hTQ.alloc hbW hlt _, by subst hB2; exact IsBlk.cast inferInstance rfl, HR12⟩
                 case round =>
                  clear hTQ HR12
                  obtain ⟨j, k, xs, q, hj, HK, rfl, hpl, hTQ, iQ, HRW⟩ := hrel
                  haveI := hTQ.iX
                  have lX := hTQ.tb.lt
                  have lQ := iQ.le.out
                  by_cases hj8 : j < 5
                  ·obtain rfl := HK.out
                   clear HK
                   have hjI : (j : Int) < 5 := by omega
                   have hpt : (gF b 116 5)[j]? = some (.pointer (some ⟨b, 116 + j, none⟩)) := gD _ _ hj8
                   generalize gF b 116 5 = PT at *
                   haveI := iQ
                   go_wp2_with fail
                   go_at_call 126; refine (dJ R _ a cap s q (H.out.mk' hTQ.rd hTQ.hq)).mono ?_; rintro e w2 h1
                   cases hO : dU (s.drop q) with
                   | none =>
                    rw [hO] at h1
                    obtain ⟨c, f, he, h2, h3, h4, h5⟩ := h1
                    unfold aW dt at he; subst he
                    exact ⟨rfl, aG.no (by rw [HRW.out, show 5 - j = (5 - j - 1) + 1 by omega, yq hO]) h2 h3 h4 (hTQ.kp.trans h5)⟩
                   | some x =>
                    obtain ⟨x, r⟩ := x
                    have HR2 : Hid (cb (s.drop p) = (aB dU (5 - (j + 1)) (xs ++ [x])).bind (K8 ps gr cf de ra bu) r) := Lib.hid (by rw [HRW.out, show 5 - j = (5 - (j + 1)) + 1 by omega, bI hO])
                    rw [hO] at h1
                    obtain ⟨v, q2, rfl, rfl, rfl, h4, h5, h6⟩ := h1
                    have hT2 := Lib.hid (hTQ.call hbW hlt h5 h4 h6)
                    have hsW := hTQ.kp.size
                    have iQ2 := h6.blk iQ (by omega)
                    haveI iB : IsBlk w2 b _ _ := ⟨hT2.out.tb.blk⟩
                    obtain ⟨V, hV⟩ : ∃ V, (aS 131 (ah (af ps gr cf de ra bu xs [] 0 0) vg vd vr vb))[116 + j]? = some V := ⟨_, Array.getElem?_eq_getElem (by rw [aE]; omega)⟩
                    generalize aS 131 (ah (af ps gr cf de ra bu xs [] 0 0) vg vd vr vb) = C at *
                    clear hTQ h4 h5 h6 hO
                    go_wp2
                    go_roundw
                    case rel => exact ⟨j + 1, _, xs ++ [x], q2, by omega, Lib.hid (Int.natCast_succ j).symm, rfl, by simp [hpl], by subst hpl; exact hT2.out.put H.out.rd hbW (TB.rTs hT2.out.tb (by omega)), inferInstance, HR2⟩
                    case measure => simp [intOf]; omega
                  ·obtain rfl : j = 5 := by omega
                   have hk5 : ¬ k < 5 := by have := HK.out; omega
                   have HR13 : Hid (cb (s.drop p) = K8 ps gr cf de ra bu xs (s.drop q)) := Lib.hid (by rw [HRW.out, Nat.sub_self, ca])
                   rename List Int => ts
                   clear HK HRW iQ
                   go_wp2
                   go_loopw [102] (fun i wr => ∃ (j : Nat) (k : Int) (xs : List Int) (q : Nat), j ≤ 8 ∧ Hid (k = j) ∧ i = .int .i64 k ∧ xs.length = j ∧ TQ R W wr a cap s q b (af ps gr cf de ra bu ts xs 0 0) vg vd vr vb ∧ Hid (cb (s.drop p) = (aB (bY 1 0 2) (8 - j) xs).bind (K9 ps gr cf de ra bu ts) (s.drop q))) (fun i _ => 8 - (intOf i).toNat)
                   case atStart => exact ⟨0, 0, [], q, by omega, Lib.hid rfl, rfl, rfl, hTQ, HR13⟩
                   case round =>
                    clear hTQ HR13
                    obtain ⟨j, k, xs, q, hj, HK, rfl, hpl, hTQ, HRW⟩ := hrel
                    haveI := hTQ.iX
                    have lX := hTQ.tb.lt
                    by_cases hj8 : j < 8
                    ·obtain rfl := HK.out
                     clear HK
                     have hjI : (j : Int) < 8 := by omega
                     go_wp2_with fail
                     go_at_call 42; refine (bx R _ a cap s q 1 0 2 (H.out.mk' hTQ.rd hTQ.hq) (by omega) (by omega)).mono ?_; rintro e w2 h1
                     cases hO : (bY 1 0 2) (s.drop q) with
                     | none =>
                      replace h1 : aG R wr w2 a cap s gH ((bY 1 0 2) (s.drop q)) e := h1
                      rw [hO] at h1
                      obtain ⟨c, f, he, h2, h3, h4, h5⟩ := h1
                      unfold aW dt at he; subst he
                      exact ⟨rfl, aG.no (by rw [HRW.out, show 8 - j = (8 - j - 1) + 1 by omega, yq hO]) h2 h3 h4 (hTQ.kp.trans h5)⟩
                     | some x =>
                      obtain ⟨x, r⟩ := x
                      have HR2 : Hid (cb (s.drop p) = (aB (bY 1 0 2) (8 - (j + 1)) (xs ++ [x])).bind (K9 ps gr cf de ra bu ts) r) := Lib.hid (by rw [HRW.out, show 8 - j = (8 - (j + 1)) + 1 by omega, bI hO])
                      replace h1 : aG R wr w2 a cap s gH ((bY 1 0 2) (s.drop q)) e := h1
                      rw [hO] at h1
                      obtain ⟨v, q2, rfl, rfl, rfl, h4, h5, h6⟩ := h1
                      have hT2 := Lib.hid (hTQ.call hbW hlt h5 h4 h6)
                      haveI iB : IsBlk w2 b _ _ := ⟨hT2.out.tb.blk⟩
                      obtain ⟨V, hV⟩ : ∃ V, (aS 131 (ah (af ps gr cf de ra bu ts xs 0 0) vg vd vr vb))[121 + j]? = some V := ⟨_, Array.getElem?_eq_getElem (by rw [aE]; omega)⟩
                      generalize aS 131 (ah (af ps gr cf de ra bu ts xs 0 0) vg vd vr vb) = C at *
                      clear hTQ h4 h5 h6 hO
                      go_wp2
                      go_roundw
                      case rel => exact ⟨j + 1, _, xs ++ [x], q2, by omega, Lib.hid (Int.natCast_succ j).symm, rfl, by simp [hpl], by subst hpl; exact hT2.out.put H.out.rd hbW (TB.rFl hT2.out.tb (by omega)), HR2⟩
                      case measure => simp [intOf]; omega
                    ·obtain rfl : j = 8 := by omega
                     have hk8 : ¬ k < 8 := by have := HK.out; omega
                     have HR14 : Hid (cb (s.drop p) = (K9 ps gr cf de ra bu ts) xs (s.drop q)) := Lib.hid (by rw [HRW.out, Nat.sub_self, ca])
                     rename List Int => fl
                     clear HK HRW
                     go_wp2_with fail
                     go_at_call 42; refine (bx R _ a cap s q 4 0 2147483647 (H.out.mk' hTQ.rd hTQ.hq) (by omega) (by omega)).mono ?_; rintro e w2 h1
                     cases hO : bY 4 0 2147483647 (s.drop q) with
                     | none =>
                      rw [hO] at h1
                      obtain ⟨c, f, he, h2, h3, h4, h5⟩ := h1
                      unfold aW dt at he; subst he
                      exact ⟨rfl, aG.no (by rw [HR14.out]; exact Pz.none hO) h2 h3 h4 (hTQ.kp.trans h5)⟩
                     | some x =>
                      obtain ⟨wn, r⟩ := x
                      have HR15 : Hid (cb (s.drop p) = (xU ps gr cf de ra bu ts fl wn) r) := Lib.hid (by rw [HR14.out]; exact Pz.some hO)
                      rw [hO] at h1
                      obtain ⟨v, q2, rfl, rfl, rfl, h4, h5, h6⟩ := h1
                      have hT2 := hTQ.call hbW hlt h5 h4 h6
                      haveI iB : IsBlk w2 b _ _ := ⟨hT2.tb.blk⟩
                      obtain ⟨V, hV⟩ : ∃ V, (aS 131 (ah (af ps gr cf de ra bu ts fl 0 0) vg vd vr vb))[129]? = some V := ⟨_, ab _ _ _ (by decide)⟩
                      generalize aS 131 (ah (af ps gr cf de ra bu ts fl 0 0) vg vd vr vb) = C at *
                      have hT3 : TQ R W (w2.setCell ⟨b, 129, none⟩ (.int .i64 wn)) a cap s q2 b (af ps gr cf de ra bu ts fl wn 0) vg vd vr vb := hT2.put H.out.rd hbW (TB.putWin hT2.tb)
                      haveI iX2 := hT2.iX
                      haveI apX : Apart W.heap.size b := ⟨by omega⟩
                      clear hTQ hT2 hO h4 h5 h6 HR14
                      go_wp2_with fail
                      generalize (w2.setCell ⟨b, 129, none⟩ (.int .i64 wn)) = w3 at *
                      clear iB hV V iX2 C
                      have hTQ := hT3
                      clear hT3
                      haveI := hTQ.iX
                      skip
                      skip
                      go_at_call 42; refine (bx R _ a cap s q2 4 0 2147483647 (H.out.mk' hTQ.rd hTQ.hq) (by omega) (by omega)).mono ?_; rintro e w2 h1
                      cases hO : bY 4 0 2147483647 (s.drop q2) with
                      | none =>
                       rw [hO] at h1
                       obtain ⟨c, f, he, h2, h3, h4, h5⟩ := h1
                       unfold aW dt at he; subst he
                       exact ⟨rfl, aG.no (by rw [HR15.out]; exact Pz.none hO) h2 h3 h4 (hTQ.kp.trans h5)⟩
                      | some x =>
                       obtain ⟨sh, r⟩ := x
                       have HR16 : Hid (cb (s.drop p) = (Pz.pure (af ps gr cf de ra bu ts fl wn sh)) r) := Lib.hid (by rw [HR15.out]; exact Pz.some hO)
                       rw [hO] at h1
                       obtain ⟨v, q3, rfl, rfl, rfl, h4, h5, h6⟩ := h1
                       have hT2 := hTQ.call hbW hlt h5 h4 h6
                       haveI iB : IsBlk w2 b _ _ := ⟨hT2.tb.blk⟩
                       obtain ⟨V, hV⟩ : ∃ V, (aS 131 (ah (af ps gr cf de ra bu ts fl wn 0) vg vd vr vb))[130]? = some V := ⟨_, ab _ _ _ (by decide)⟩
                       generalize aS 131 (ah (af ps gr cf de ra bu ts fl wn 0) vg vd vr vb) = C at *
                       have hT3 : TQ R W (w2.setCell ⟨b, 130, none⟩ (.int .i64 sh)) a cap s q3 b (af ps gr cf de ra bu ts fl wn sh) vg vd vr vb := hT2.put H.out.rd hbW (TB.putShare hT2.tb)
                       obtain ⟨C2, hC2⟩ : ∃ C2, aS 131 (ah (af ps gr cf de ra bu ts fl wn sh) vg vd vr vb) = C2 := ⟨_, rfl⟩
                       have iB2 : IsBlk (w2.setCell ⟨b, 130, none⟩ (.int .i64 sh)) b (aS 131 (ah (af ps gr cf de ra bu ts fl wn sh) vg vd vr vb)) 34 := ⟨hT3.tb.blk⟩
                       rw [hC2] at iB2
                       have HS2 : Hid (C2.size = 131) := Lib.hid (by rw [← hC2]; exact aE _ _)
                       have HZS : Hid (aj.size = 131) := Lib.hid hz0
                       have HONE := Lib.hid (hT3.tb.isTab.one)
                       rw [hC2] at HONE
                       have iZ2 := hT3.iZ
                       have HSET : Hid (((w2.setCell ⟨b, 130, none⟩ (.int .i64 sh)).setCells (W.heap.size + 1) 0 C2.toList).heap[W.heap.size + 1]? = some (.cells C2 34)) := Lib.hid (by rw [ap _ iZ2.out, yp (by rw [HS2.out, HZS.out])])
                       have HTAB : Hid (∀ w', Agr W.heap.size ((w2.setCell ⟨b, 130, none⟩ (.int .i64 sh)).setCells (W.heap.size + 1) 0 C2.toList) w' → ag w' C2 (af ps gr cf de ra bu ts fl wn sh)) := Lib.hid (by
                        intro w' ha
                        have h := ((hT3.tb.other (k := W.heap.size + 1) (i := 0) (vs := C2.toList) (by omega)).agr ha (by omega)).isTab
                        rw [hC2] at h; exact h)
                       have HT3 := Lib.hid hT3
                       clear hTQ hT2 hO h4 h5 h6 hT3 hC2 hz0
                       haveI := iB2
                       haveI := iZ2
                       go_wp2_with (first | (refine ax 34 _ (C := C2) rfl rfl rfl Tryz.underlying34 rfl (by rw [HS2.out]; kernel_rfl) ?_; go_simp) | (refine ac (o := 0) (cs := C2) (C := aj) 34 rfl rfl rfl rfl (by rw [HZS.out, HS2.out]; exact Nat.le_refl _) (by rw [HS2.out]; kernel_rfl) HONE.out ?_; go_simp))
                       refine bodyPost_ret (results_cell_row (p := 2) (ty := 34) rfl _ _ (W.heap.size + 1) 34 C2 (0, 0) _ rfl HSET.out Tryz.underlying34 rfl (by rw [HS2.out]; kernel_rfl)) rfl ?_
                       exact aG.yes HR16.out ⟨C2, rfl, HTAB.out⟩ HT3.out.hq (H.out.rd.owns HT3.out.rd HT3.out.kp (by omega)) (HT3.out.kp.owns hlt (by omega))
end
end Go.Proofs.YtodgfjgljcinlaaGreat
