/- Part Qp of the proof: RdrV, RdrW. -/
import Derived.Test.YtodgfjgljcinlaaGreatQo
import Derived.Defers
import Derived.Test.YtodgfjgljcinlaaGreatQa
import Derived.Test.YtodgfjgljcinlaaGreatQd
import Derived.Test.YtodgfjgljcinlaaGreatQc
namespace Go.Proofs.YtodgfjgljcinlaaGreat
set_option maxHeartbeats 8000000
set_option maxRecDepth 100000
set_option linter.unusedVariables false
section
open Go.RowKit
attribute [local go_sem] IsBlk.cell IsBlk.frozen
theorem yn.max {w : World} {base : Nat} {a : Option Addr} {n cap : Nat} {zs : List Int} (h : yn w base (.slice a n cap) zs) : cap ≤ 9223372036854775807 := by
 obtain ⟨_, h⟩ := h
 rcases h with ⟨e, h0⟩ | ⟨g, cap, cur, e, hg, hc, h3, h4, h5, h6⟩
 ·cases e; omega
 ·cases e; exact h4
theorem tI (a : Option Addr) (cap : Nat) (zs : List Int) (w : World) (hl : zs.length ≤ 100000) (hi : bj w a zs) (hb : aH zs) :
  Calls Tryz.prog 41 #[.slice a zs.length cap] w fun e w' => ∃ R a' cap', e = .returned (.pointer (some ⟨R, 0, none⟩)) ∧ w.heap.size ≤ R ∧ RdP R w' a' cap' zs 0 ∧ (∀ b off, a' = some ⟨b, off, none⟩ → w.heap.size ≤ b) ∧ Below w.heap.size w w' := by
 have HC := Lib.hid (oC a cap zs w hl hi)
 clear hi
 go_enter Tryz.func41, Tryz.ntmps41
 go_wp2_with (go_at_call 118; refine HC.out.mono ?_; rintro e w1 ⟨v, rfl, ho, hb⟩; obtain ⟨a2, cap2, rfl, hby⟩ := ho.opened)
 go_ret
 have hadr : ∀ b off, a2 = some ⟨b, off, none⟩ → w.heap.size ≤ b := fun b off e => by
  subst e
  obtain ⟨_, h⟩ := ho
  rcases h with ⟨e, h0⟩ | ⟨g, cap, cur, e, hg, _⟩
  ·cases e
  ·cases e; exact hg
 refine ⟨_, a2, cap2, rfl, hb.size, ⟨⟨aq _ _, bk.below hby ((Below.refl _ _).alloc (Nat.le_refl _) _) (Nat.le_refl _), fun b off e h0 => ?_, ho.cap⟩, Nat.zero_le _, hl, ho.max, by assumption⟩, hadr, hb.alloc hb.size _⟩
 obtain ⟨b', off', e', hb', _⟩ := hby.resolve_left (by omega)
 rw [e] at e'; cases e'; omega
theorem gx (w : World) : (Instr.build 34 #[]).run Tryz.prog w = .ok (.agg aj) w := by kernel_rfl
theorem jm : aj.all (·.oneCell') = true := by kernel_rfl
theorem rE (T0 F0 : Nat) (C1 C2 : Array Value) (c f c0 f0 : Int) (w : World) [h1 : IsBlk w T0 C1 34] [h2 : IsBlk w F0 #[.int .i64 c0, .int .i64 f0] 37] (hne : T0 ≠ F0) (hs1 : C1.size = 131) :
  CallsD Tryz.prog 40 #[.pointer (some ⟨T0, 0, none⟩), .pointer (some ⟨F0, 0, none⟩)] (.panicking [{ v := .iface 37 (.agg #[.int .i64 c, .int .i64 f]), recovered := false }]) w fun e u' w' =>
   e = .returned (.tuple #[]) ∧ u' = .panicking [{ v := .iface 37 (.agg #[.int .i64 c, .int .i64 f]), recovered := true }] ∧ w'.heap[T0]? = some (.cells aj 34) ∧ w'.heap[F0]? = some (.cells #[.int .i64 c, .int .i64 f] 37) ∧ (∀ B, B ≤ T0 → B ≤ F0 → Below B w w') := by
 have ht := j7 (.agg #[.int .i64 c, .int .i64 f])
 have l1 := h1.le
 have l2 := h2.le
 have hz := gx
 have HS1 := Lib.hid hs1
 have HZ0 : Hid (aj.size = 131) := Lib.hid rfl
 haveI ap1 : Apart T0 F0 := ⟨hne⟩
 haveI ap2 : Apart F0 T0 := ⟨Ne.symm hne⟩
 have HNE := Lib.hid hne
 clear hs1 hne
 refine callsD_of_wpS Tryz.func40 rfl fun c₀ cs hu => ?_
 apply wpS_seq
 apply wpS_region
 rw [List.range_eq_range']
 simp only [Tryz.ntmps40, List.size_toArray, List.length_cons, List.length_nil, Nat.reduceAdd, Nat.reduceSub, Array.replicate_succ, Array.replicate_zero, List.push_toArray, List.append_toArray, List.nil_append, List.cons_append]
 rw [show List.range' 0 8 = 0 :: List.range' 1 7 from rfl]
 have hc : recoverD (c₀ :: cs) = some (.iface 37 (.agg #[.int .i64 c, .int .i64 f]), { c₀ with mode := .panicking [{ v := .iface 37 (.agg #[.int .i64 c, .int .i64 f]), recovered := true }] } :: cs) := by
  simp only [recoverD, hu]
 generalize hrest : List.range' 1 7 = rest
 refine gz rfl rfl hc ?_
 simp only [Act.put, List.setIfInBounds_toArray, List.set_cons_succ, List.set_cons_zero]
 rw [← hrest]
 clear hrest
 refine cJ 1 7 (by rfl) ?_ ?_
 ·rintro ⟨a, w1, h⟩
  obtain ⟨u', h1, _⟩ := h
  cases h1
 ·simp only [List.drop_succ_cons, List.drop_zero]
  clear hc hu
  go_wp2
  refine wpS_of_wp ?_
  go_wp2
  have HSZ : Hid (aj.toList.length = 131) := Lib.hid rfl
  obtain ⟨wb, hwb⟩ : ∃ x, w.alloc (.cells #[.int .i64 c, .int .i64 f] 37) = x := ⟨_, rfl⟩
  have iK : IsBlk wb w.heap.size #[.int .i64 c, .int .i64 f] 37 := by rw [← hwb]; infer_instance
  have iT : IsBlk wb T0 C1 34 := by rw [← hwb]; infer_instance
  have iF : IsBlk wb F0 #[.int .i64 c0, .int .i64 f0] 37 := by rw [← hwb]; infer_instance
  have hbel : Below w.heap.size w wb := by rw [← hwb]; exact (Below.refl _ _).alloc (Nat.le_refl _) _
  have lT := h1.le.out
  have lF := h2.le.out
  obtain ⟨K0, hK0⟩ : ∃ x, w.heap.size = x := ⟨_, rfl⟩
  rw [hK0] at iK hbel
  haveI ap3 : Apart K0 T0 := ⟨by omega⟩
  haveI ap4 : Apart K0 F0 := ⟨by omega⟩
  try rw [hwb]
  try rw [hK0]
  have HK0 := Lib.hid hK0
  clear hwb hK0 l1 l2
  haveI := iK
  haveI := iT
  haveI := iF
  (refine dr (fun w => IsBlk w K0 #[.int .i64 c, .int .i64 f] 37) [1] [0, 2, 3] 3 (by kernel_rfl) (by kernel_rfl) (by intro d v c a w h; cases d <;> exact h) inferInstance ?_; simp only [bD, List.filterMap_cons, List.filterMap_nil, List.getElem?_cons_succ, List.getElem?_cons_zero]; (apply Exists.intro; refine ⟨Or.inl ⟨rfl, fun w hS => ?_⟩, ?_⟩; (focus (first | (simp [go_sem, *]; rfl) | (simp [go_sem]; rfl))); simp only [Act.put, List.setIfInBounds_toArray, List.set_cons_succ, List.set_cons_zero]); refine cP ?_)
  refine ay rfl (fun K hK => ?_)
  go_wp2_with fail
  show K _ _; refine hK _ _ (fun _ => inferInstance) ?_
  clear hK K
  refine ay rfl (fun K hK => ?_)
  refine ac (o := 0) (cs := aj) 34 rfl rfl rfl rfl (by rw [HS1.out, HZ0.out]; exact Nat.le_refl _) (by rw [HZ0.out]; kernel_rfl) jm ?_
  show K _ _; refine hK _ _ (fun _ => inferInstance) ?_
  clear hK K
  refine ay rfl (fun K hK => ?_)
  go_wp2_with fail
  show K _ _; refine hK _ _ (fun h => absurd rfl h) ?_
  clear hK K
  unfold cC
  refine ⟨rfl, _, rfl, .tuple #[], by simp [results, Tryz.results40], rfl, rfl, ?_, ?_, ?_⟩
  ·have := (inferInstance : IsBlk (((wb.drew.setCells T0 0 aj.toList).setCell ⟨F0, 0, none⟩ (.int .i64 c)).setCell ⟨F0, 1, none⟩ (.int .i64 f)) T0 (kk C1 0 aj.toList) 34).out
   rw [yp (by rw [HZ0.out, HS1.out])] at this
   exact this
  ·exact (IsBlk.cast (inferInstance : IsBlk (((wb.drew.setCells T0 0 aj.toList).setCell ⟨F0, 0, none⟩ (.int .i64 c)).setCell ⟨F0, 1, none⟩ (.int .i64 f)) F0 _ 37) rfl).out
  ·intro B hB1 hB2
   have hk := HK0.out
   have hb1 : Below B w wb := by rw [← hk] at hbel; exact hbel.mono (by omega)
   exact ((al _ _ hb1.drew hB1).setCell (p := ⟨F0, 0, none⟩) hB2 _).setCell (p := ⟨F0, 1, none⟩) hB2 _
theorem z9 {P : Program} {fn : Func} {p1 p2 : Tmp} {t1 t2 : TypeId} (h : fn.results = #[.cell p1 t1, .cell p2 t2]) (tmps : Array Value) (w : World) (g1 g2 : Nat) (T1 T2 : TypeId) (cs1 cs2 : Array Value) (f1 f2 : Nat × Nat) (d1 d2 : TypeDesc)
  (hp1 : tmps.getD p1 undef = .pointer (some ⟨g1, 0, none⟩)) (hp2 : tmps.getD p2 undef = .pointer (some ⟨g2, 0, none⟩)) (hg1 : w.heap[g1]? = some (.cells cs1 T1 f1)) (vV : w.heap[g2]? = some (.cells cs2 T2 f2))
  (hu1 : P.underlying t1 = some d1) (hd1 : (match d1 with | .struct _ | .array _ _ => true | _ => false) = true) (hi1 : (P.info? t1).map (·.size) = some cs1.size)
  (hu2 : P.underlying t2 = some d2) (hd2 : (match d2 with | .struct _ | .array _ _ => true | _ => false) = true) (hi2 : (P.info? t2).map (·.size) = some cs2.size) :
  (results fn tmps).run P w = .ok (.tuple #[.agg cs1, .agg cs2]) w := by
 have hp1' : tmps[p1]?.getD undef = .pointer (some ⟨g1, 0, none⟩) := by simpa using hp1
 have hp2' : tmps[p2]?.getD undef = .pointer (some ⟨g2, 0, none⟩) := by simpa using hp2
 simp [results, h, hp1', hp2', asAddr, run_loadVar_row w g1 T1 t1 cs1 f1 d1 hg1 hu1 hd1 hi1, run_loadVar_row w g2 T2 t2 cs2 f2 d2 vV hu2 hd2 hi2]
theorem dh {fn : Func} (hfn : fn.results = #[.cell 2 34, .cell 3 37]) (T0 F0 : Nat) (C1 : Array Value) (c f c0 f0 : Int) (w : World) (tmps : Array Value) (Q : Ending → World → Prop) [h1 : IsBlk w T0 C1 34] [h2 : IsBlk w F0 #[.int .i64 c0, .int .i64 f0] 37] (hne : T0 ≠ F0) (hs1 : C1.size = 131)
  (hp1 : tmps.getD 2 undef = .pointer (some ⟨T0, 0, none⟩)) (hp2 : tmps.getD 3 undef = .pointer (some ⟨F0, 0, none⟩)) (h : ∀ w', (∀ B, B ≤ T0 → B ≤ F0 → Below B w w') → Q (.returned (.tuple #[.agg aj, .agg #[.int .i64 c, .int .i64 f]])) w') :
  Leaves Tryz.prog fn tmps Q [{ target := .fn (.func 40) #[.pointer (some ⟨T0, 0, none⟩), .pointer (some ⟨F0, 0, none⟩)], args := #[] }] (.panicking [{ v := .iface 37 (.agg #[.int .i64 c, .int .i64 f]), recovered := false }]) w := by
 refine leaves_cons (f := 40) (args := #[.pointer (some ⟨T0, 0, none⟩), .pointer (some ⟨F0, 0, none⟩)]) (by simp) (by simp [go_sem]) ?_
 refine (rE T0 F0 C1 C1 c f c0 f0 w hne hs1).mono ?_
 rintro e u' w'' ⟨rfl, rfl, g1, g2, hb⟩
 refine ⟨_, z9 (p1 := 2) (p2 := 3) (t1 := 34) (t2 := 37) hfn tmps w'' T0 F0 _ _ _ _ (0, 0) (0, 0) _ _ hp1 hp2 g1 g2 Tryz.underlying34 rfl (by kernel_rfl) Tryz.underlying37 rfl (by kernel_rfl), h w'' hb⟩
end
section
open Go.RowKit
attribute [local go_sem] IsBlk.cell IsBlk.frozen
theorem qe (T0 F0 : Nat) (w : World) :
  CallsD Tryz.prog 40 #[.pointer (some ⟨T0, 0, none⟩), .pointer (some ⟨F0, 0, none⟩)] .returning w fun e u' w' =>
   e = .returned (.tuple #[]) ∧ u' = .returning ∧ w' = w.alloc (.cells #[.int .i64 0, .int .i64 0] 37) := by
 have h1 := nZ
 refine callsD_of_wpS Tryz.func40 rfl fun c₀ cs hu => ?_
 apply wpS_seq
 apply wpS_region
 rw [List.range_eq_range']
 simp only [Tryz.ntmps40, List.size_toArray, List.length_cons, List.length_nil, Nat.reduceAdd, Nat.reduceSub, Array.replicate_succ, Array.replicate_zero, List.push_toArray, List.append_toArray, List.nil_append, List.cons_append]
 rw [show List.range' 0 8 = 0 :: List.range' 1 7 from rfl]
 have hc : recoverD (c₀ :: cs) = none := by
  simp only [recoverD, hu]
 have HCC : Hid (c₀ = { c₀ with mode := .returning }) := Lib.hid (by cases c₀; simp_all)
 generalize hrest : List.range' 1 7 = rest
 refine fR rfl rfl hc ?_
 simp only [Act.put, List.setIfInBounds_toArray, List.set_cons_succ, List.set_cons_zero]
 rw [← hrest]
 clear hrest
 refine cJ 1 7 (by rfl) ?_ ?_
 ·rintro ⟨a, w1, h⟩
  obtain ⟨u', h1, _⟩ := h
  cases h1
 ·simp only [List.drop_succ_cons, List.drop_zero]
  clear hc hu
  go_wp2
  refine wpS_of_wp ?_
  go_wp2
  exact ⟨rfl, .returning, congrArg (· :: cs) HCC.out, .tuple #[], by simp [results, Tryz.results40], rfl, rfl, rfl⟩
theorem tK {fn : Func} (hfn : fn.results = #[.cell 2 34, .cell 3 37]) (T0 F0 : Nat) (C1 : Array Value) (c0 f0 : Int) (w : World) (tmps : Array Value) (Q : Ending → World → Prop) [h1 : IsBlk w T0 C1 34] [h2 : IsBlk w F0 #[.int .i64 c0, .int .i64 f0] 37] (hs1 : C1.size = 131)
  (hp1 : tmps.getD 2 undef = .pointer (some ⟨T0, 0, none⟩)) (hp2 : tmps.getD 3 undef = .pointer (some ⟨F0, 0, none⟩)) (h : Q (.returned (.tuple #[.agg C1, .agg #[.int .i64 c0, .int .i64 f0]])) (w.alloc (.cells #[.int .i64 0, .int .i64 0] 37))) :
  Leaves Tryz.prog fn tmps Q [{ target := .fn (.func 40) #[.pointer (some ⟨T0, 0, none⟩), .pointer (some ⟨F0, 0, none⟩)], args := #[] }] .returning w := by
 refine leaves_cons (f := 40) (args := #[.pointer (some ⟨T0, 0, none⟩), .pointer (some ⟨F0, 0, none⟩)]) (by simp) (by simp [go_sem]) ?_
 refine (qe T0 F0 w).mono ?_
 rintro e u' w'' ⟨rfl, rfl, rfl⟩
 have g1 : IsBlk (w.alloc (.cells #[.int .i64 0, .int .i64 0] 37)) T0 C1 34 := inferInstance
 have g2 : IsBlk (w.alloc (.cells #[.int .i64 0, .int .i64 0] 37)) F0 #[.int .i64 c0, .int .i64 f0] 37 := inferInstance
 exact ⟨_, z9 (p1 := 2) (p2 := 3) (t1 := 34) (t2 := 37) hfn tmps _ T0 F0 _ _ _ _ (0, 0) (0, 0) _ _ hp1 hp2 g1.out g2.out Tryz.underlying34 rfl (by rw [hs1]; kernel_rfl) Tryz.underlying37 rfl (by kernel_rfl), h⟩
def it (W w' : World) (s : List Int) : Option Tab → Ending → Prop
 | some t, e => ∃ T, e = .returned (.tuple #[.agg T, .agg #[.int .i64 0, .int .i64 0]]) ∧ ag w' T t ∧ Below W.heap.size W w'
 | none, e => ∃ (c f : Int), e = .returned (.tuple #[.agg aj, .agg #[.int .i64 c, .int .i64 f]]) ∧ c ≠ 0 ∧ 0 ≤ f ∧ f ≤ s.length ∧ Below W.heap.size W w'
theorem it.no {W w' : World} {s : List Int} {o : Option Tab} {c f : Int} (ho : o = none) (h1 : c ≠ 0) (h2 : 0 ≤ f) (h3 : f ≤ s.length) (h4 : Below W.heap.size W w') : it W w' s o (.returned (.tuple #[.agg aj, .agg #[.int .i64 c, .int .i64 f]])) := by
 subst ho; exact ⟨c, f, rfl, h1, h2, h3, h4⟩
theorem it.yes {W w' : World} {s : List Int} {o : Option Tab} {t : Tab} {T : Array Value} (ho : o = some t) (h1 : ag w' T t) (h4 : Below W.heap.size W w') : it W w' s o (.returned (.tuple #[.agg T, .agg #[.int .i64 0, .int .i64 0]])) := by
 subst ho; exact ⟨T, rfl, h1, h4⟩
def te (b : List Int) (t : Tab) (s2 : List Int) : Option Tab :=
 match bY 2 0 65535 s2 with
 | none => none
 | some (c, s3) => if c ≠ fq (b.take (b.length - s2.length)) then none else if 0 < s3.length then none else some t
theorem qv {b s s2 : List Int} {t : Tab} (hl : b.length ≤ 2048) (h1 : bY 3 0 16777215 b = some (ie, s)) (h2 : cb s = some (t, s2)) : d8 b = te b t s2 := by
 unfold d8 te
 rw [if_neg (by omega), h1]
 simp only
 rw [if_neg (by simp), h2]
 rfl
theorem RdS.other {R : Nat} {W : World} {a : Option Addr} {cap : Nat} {s : List Int} {p c f : Int} {k i : Nat} {vs : List Value} (h : RdS R W a cap s p c f) (hk : R ≠ k) (ha : ∀ b off, a = some ⟨b, off, none⟩ → b ≠ k) : RdS R (W.setCells k i vs) a cap s p c f := by
 refine ⟨by rw [ar _ _ hk]; exact h.blk, ?_, h.ne, h.cp⟩
 rcases h.byt with h0 | ⟨b, off, rfl, hb, hc⟩
 ·exact .inl h0
 ·refine .inr ⟨b, off, rfl, by rw [aY]; exact hb, fun j hj => ?_⟩
  have h1 := hc j hj
  unfold World.cell? at h1 ⊢
  rw [ar _ _ (ha _ _ rfl)]; exact h1
theorem Agr.trans {B : Nat} {a b c : World} (h : Agr B a b) (k : Agr B b c) : Agr B a c := ⟨Nat.le_trans h.size k.size, fun j h1 h2 => (k.same j h1 (Nat.lt_of_lt_of_le h2 h.size)).trans (h.same j h1 h2)⟩
theorem Agr.kp {B R : Nat} {a b : World} (h : Kp R a b) (hR : R < B) : Agr B a b := ⟨h.size, fun j h1 h2 => h.same j (by omega) h2⟩
theorem Agr.below {B : Nat} {a b : World} (h : Below a.heap.size a b) : Agr B a b := ⟨h.size, fun j _ h2 => h.block j h2⟩
theorem rD {b s : List Int} {m : Int} (h1 : bY 3 0 16777215 b = some (m, s)) (hm : m ≠ ie) : d8 b = none := by
 unfold d8
 split
 ·rfl
 ·rw [h1]; simp only; rw [if_pos hm]
theorem ua {b s : List Int} (h1 : bY 3 0 16777215 b = some (ie, s)) (h2 : cb s = none) : d8 b = none := by
 unfold d8
 split
 ·rfl
 ·rw [h1]; simp only; rw [if_neg (by simp), h2]
theorem acN {b : List Int} (h1 : bY 3 0 16777215 b = none) : d8 b = none := by
 unfold d8
 split
 ·rfl
 ·rw [h1]
theorem fU (a : Option Addr) (cap : Nat) (zs : List Int) (w : World) (hl : zs.length ≤ 100000) (hcp : cap ≤ 9223372036854775807) (hlc : zs.length ≤ cap) (hi : bj w a zs) (hby : aH zs) :
  Calls Tryz.prog 15 #[.slice a zs.length cap] w fun e w' => it w w' zs (d8 zs) e := by
 have hmf : ∀ (fn : Fn) (first cap : Array Value) (w : World), (Instr.makeFunc fn first cap).run Tryz.prog w = .ok (.func fn first cap) w := fun _ _ _ _ => rfl
 have z := lM
 have hz0 : Hid (aj.size = 131) := Lib.hid rfl
 have HI : Hid (∀ w', Below w.heap.size w w' → bj w' a zs) := Lib.hid fun w' hb => bk.below hi hb (Nat.le_refl _)
 have HBY := Lib.hid hby
 clear hi hby
 by_cases hbig : 2048 < zs.length
 ·have hbI : (2048 : Int) < zs.length := by omega
  have HD : Hid (d8 zs = none) := Lib.hid (by unfold d8; rw [if_pos hbig])
  go_enter_defers Tryz.func15, Tryz.ntmps15
  go_wp2_with fail
  refine dh rfl w.heap.size (w.heap.size + 1) aj 1 0 0 0 _ _ _ (by omega) hz0.out rfl rfl (fun w' hb => ?_)
  have hb0 : Below w.heap.size w ((w.alloc (.cells aj 34)).alloc (.cells #[.int .i64 0, .int .i64 0] 37)) := by exact yd
  exact it.no HD.out (by decide) (by omega) (by omega) (hb0.trans (hb _ (Nat.le_refl _) (by omega)))
 ·have hbI : ¬ (2048 : Int) < zs.length := by omega
  go_enter_defers Tryz.func15, Tryz.ntmps15
  go_wp2_with fail
  go_at_call 41; refine (tI a cap zs _ hl (HI.out _ (by exact yd)) HBY.out).mono ?_; rintro e w1 ⟨R, a1, cap1, rfl, hR, hRd, hadr, hb1⟩
  have hbw1 : Below w.heap.size w w1 := (show Below w.heap.size w ((w.alloc (.cells aj 34)).alloc (.cells #[.int .i64 0, .int .i64 0] 37)) by exact yd).trans (hb1.mono (by simp <;> omega))
  have hR2 : w.heap.size + 2 ≤ R := by simpa using hR
  have hadr2 : ∀ b off, a1 = some ⟨b, off, none⟩ → b ≠ w.heap.size := fun b off e => by have := hadr b off e; simp at this; omega
  have iT1 : IsBlk w1 w.heap.size aj 34 := ⟨by rw [hb1.block _ (by simp <;> omega)]; exact (inferInstance : IsBlk ((w.alloc (.cells aj 34)).alloc (.cells #[.int .i64 0, .int .i64 0] 37)) w.heap.size aj 34).out⟩
  have iF1 : IsBlk w1 (w.heap.size + 1) #[.int .i64 0, .int .i64 0] 37 := ⟨by rw [hb1.block _ (by simp <;> omega)]; exact (inferInstance : IsBlk ((w.alloc (.cells aj 34)).alloc (.cells #[.int .i64 0, .int .i64 0] 37)) (w.heap.size + 1) #[.int .i64 0, .int .i64 0] 37).out⟩
  have hRlt := hRd.rd.lt
  have lF1 := iF1.le.out
  clear hR hadr hb1
  go_wp2_with fail
  have hRdA : RdP R (w1.alloc (.cells #[.pointer (some ⟨R, 0, none⟩)] 120)) a1 cap1 zs 0 := hRd.below ((Below.refl _ _).alloc (Nat.le_refl _) _)
  have hbwA : Below w.heap.size w (w1.alloc (.cells #[.pointer (some ⟨R, 0, none⟩)] 120)) := hbw1.alloc hbw1.size _
  have iTA : IsBlk (w1.alloc (.cells #[.pointer (some ⟨R, 0, none⟩)] 120)) w.heap.size aj 34 := inferInstance
  have iFA : IsBlk (w1.alloc (.cells #[.pointer (some ⟨R, 0, none⟩)] 120)) (w.heap.size + 1) #[.int .i64 0, .int .i64 0] 37 := inferInstance
  have iXA : IsBlk (w1.alloc (.cells #[.pointer (some ⟨R, 0, none⟩)] 120)) w1.heap.size #[.pointer (some ⟨R, 0, none⟩)] 120 := inferInstance
  have hXR : R < w1.heap.size := hRlt
  generalize w1.alloc (.cells #[.pointer (some ⟨R, 0, none⟩)] 120) = wA at *
  clear iT1 iF1 hbw1 hRd
  generalize w1.heap.size = X at *
  go_at_call 42; refine (bx R _ a1 cap1 zs 0 3 0 16777215 hRdA (by omega) (by omega)).mono ?_; rintro e w2 h1
  rw [List.drop_zero] at h1
  cases hO : bY 3 0 16777215 zs with
  | none =>
   rw [hO] at h1
   obtain ⟨c, f, he, h2, h3, h4, h5⟩ := h1
   unfold aW dt at he; subst he
   haveI := h5.blk iTA (by omega)
   haveI := h5.blk iFA (by omega)
   refine dh rfl w.heap.size (w.heap.size + 1) aj c f 0 0 w2 _ _ (by omega) hz0.out rfl rfl (fun w' hb => ?_)
   exact it.no (acN hO) h2 h3 h4 ((h5.bel _ _ (by omega) hbwA).trans (hb _ (Nat.le_refl _) (by omega)))
  | some x =>
   obtain ⟨m, r⟩ := x
   rw [hO] at h1
   obtain ⟨v, p1, rfl, rfl, rfl, hp1, h5, h6⟩ := h1
   have iT2 := h6.blk iTA (by omega)
   have iF2 := h6.blk iFA (by omega)
   have iX2 := h6.blk iXA (by omega)
   have hbw2 := h6.bel _ _ (by omega) hbwA
   have hRd2 : RdP R w2 a1 cap1 zs p1 := RdP.mk' hRdA h5 hp1
   clear iTA iFA iXA hbwA h5 h6 hRdA
   haveI := iX2
   by_cases hm : m = ie
   ·have hm2 : m = 5784065 := hm
    subst hm2
    go_wp2_with fail
    go_at_call 43; refine (oW R _ a1 cap1 zs p1 hRd2).mono ?_; rintro e w3 h1
    cases hO2 : cb (zs.drop p1) with
    | none =>
     rw [hO2] at h1
     obtain ⟨c, f, he, h2, h3, h4, h5⟩ := h1
     unfold aW dt at he; subst he
     haveI := h5.blk iT2 (by omega)
     haveI := h5.blk iF2 (by omega)
     refine dh rfl w.heap.size (w.heap.size + 1) aj c f 0 0 w3 _ _ (by omega) hz0.out rfl rfl (fun w' hb => ?_)
     exact it.no (ua hO hO2) h2 h3 h4 ((h5.bel _ _ (by omega) hbw2).trans (hb _ (Nat.le_refl _) (by omega)))
    | some x =>
     obtain ⟨t, r⟩ := x
     have HDM : Hid (d8 zs = te zs t r) := Lib.hid (qv (by omega) hO hO2)
     rw [hO2] at h1
     obtain ⟨v, p2, rfl, ⟨T, rfl, hT⟩, rfl, hp2, h5, h6⟩ := h1
     have hz3 : 3 ≤ zs.length := by
      by_cases h : 3 ≤ zs.length
      ·exact h
      ·exfalso; unfold bY at hO; rw [if_pos (by omega)] at hO; cases hO
     have hp1l : 3 ≤ p1 := by
      have h1 := lI (s := zs) (p := 0) (k := 3) (lo := 0) (hi := 16777215) (by omega)
      rw [List.drop_zero, hO] at h1
      split at h1
      ·have h2 := (Prod.ext_iff.1 (Option.some.inj h1)).2
       have h3 := congrArg List.length h2
       simp only [List.length_drop] at h3
       omega
      ·cases h1
     obtain ⟨bb, off, rfl, _⟩ := (HI.out w (Below.refl _ _)).resolve_left (by omega)
     have HT3 := Lib.hid hT
     have iT3 := h6.blk iT2 (by omega)
     have iF3 := h6.blk iF2 (by omega)
     have iX3 := h6.blk iX2 (by omega)
     have hbw3 := h6.bel _ _ (by omega) hbw2
     have hTt := hT w3 ⟨Nat.le_refl _, fun _ _ _ => rfl⟩
     have HTs : Hid (T.size = 131) := Lib.hid hTt.size
     have HT1 := Lib.hid hTt.one
     have hXw : X ≠ w.heap.size := by omega
     haveI ap1 : Apart X w.heap.size := ⟨by omega⟩
     haveI ap2 : Apart (w.heap.size + 1) w.heap.size := ⟨by omega⟩
     have iT4 : IsBlk (w3.setCells w.heap.size 0 T.toList) w.heap.size T 34 := ⟨by rw [ap _ iT3.out, yp (by rw [HTs.out, hz0.out])]⟩
     have iF4 : IsBlk (w3.setCells w.heap.size 0 T.toList) (w.heap.size + 1) #[.int .i64 0, .int .i64 0] 37 := inferInstance
     have iX4 : IsBlk (w3.setCells w.heap.size 0 T.toList) X #[.pointer (some ⟨R, 0, none⟩)] 120 := inferInstance
     have hbw4 : Below w.heap.size w (w3.setCells w.heap.size 0 T.toList) := al _ _ hbw3 (Nat.le_refl _)
     have hRd4 : RdP R (w3.setCells w.heap.size 0 T.toList) a1 cap1 zs p2 := hRd2.mk' (h5.other (by omega) hadr2) hp2
     obtain ⟨B2, hB2⟩ : ∃ B2, w2.heap.size = B2 := ⟨_, rfl⟩
     rw [hB2] at hT
     have hRB : R < B2 := by have := hRd2.rd.lt; omega
     have HT4 : Hid (∀ w', Agr B2 (w3.setCells w.heap.size 0 T.toList) w' → ag w' T t) := Lib.hid fun w' hb => hT w' ⟨by have := hb.size; rw [aY] at this; exact this, fun j h1 h2 => by
      rw [hb.same j h1 (by rw [aY]; exact h2), ar _ _ (by omega)]⟩
     clear hB2
     haveI := iT3
     clear hT hTt
     go_wp2_with (refine ac (o := 0) (cs := T) (C := aj) 34 rfl rfl rfl rfl (by rw [HTs.out, hz0.out]; exact Nat.le_refl _) (by rw [HTs.out]; kernel_rfl) HT1.out ?_; go_simp)
     generalize w3.setCells w.heap.size 0 T.toList = w4 at *
     clear iT3 iF3 iX3 hbw3 hbw2 iT2 iF2 iX2 h5 h6 hO hO2 hRd2
     haveI := iX4
     go_at_call 44; refine (jh R _ a1 cap1 zs p2 0 0 hRd4.rd).mono ?_; rintro e w' ⟨rfl, rfl⟩
     go_wp2
     have hp2I : (p2 : Int) ≤ cap := by omega
     have hcpI : (cap : Int) ≤ 9223372036854775807 := by omega
     have HN : Hid (∀ W', RdP R W' a1 cap1 zs p2 → Calls Tryz.prog 42 #[.agg #[.pointer (some ⟨R, 0, none⟩)], .int .i64 2, .int .i64 0, .int .i64 65535] W' fun e w' => aG R W' w' a1 cap1 zs gH (bY 2 0 65535 (zs.drop p2)) e) := Lib.hid fun W' h => bx R W' a1 cap1 zs p2 2 0 65535 h (by omega) (by omega)
     have hcs := mv (zs.take p2)
     have HCR : Hid (∀ W', Below w.heap.size w W' → Calls Tryz.prog 45 #[.slice (some ⟨bb, off, none⟩) p2 cap] W' fun e w' => e = .returned (.int .u16 (fq (zs.take p2))) ∧ ∃ u : Up W', w' = u.w) := Lib.hid fun W' hW => by
      have hby' : bj W' (some ⟨bb, off, none⟩) (zs.take p2) := by
       rcases HI.out W' hW with h | ⟨b', off', e, hb, hc⟩
       ·exact .inl (by rw [List.length_take]; omega)
       ·refine .inr ⟨b', off', e, hb, fun i hi => ?_⟩
        rw [hc i (by rw [List.length_take] at hi; omega)]
        simp [List.getD, show i < p2 by rw [List.length_take] at hi; omega]
      exact Up.run (rY (some ⟨bb, off, none⟩) p2 cap (zs.take p2) W' (by rw [List.length_take]; omega) (by omega) hby' (fun i hi => by
       have := HBY.out ((zs.take p2).getD i 0) (List.mem_of_mem_take (by rw [List.getD_eq_getElem?_getD, List.getElem?_eq_getElem hi]; exact List.getElem_mem _))
       show (0 : Int) ≤ _ ∧ _ ≤ 255; omega))
     have HSM : Hid (∀ c s3, bY 2 0 65535 (zs.drop p2) = some (c, s3) → d8 zs = if c ≠ fq (zs.take p2) then none else if 0 < s3.length then none else some t) := Lib.hid fun c s3 h => by
      rw [HDM.out]; unfold te; rw [h]; simp only
      rw [show zs.length - (zs.drop p2).length = p2 by rw [List.length_drop]; omega]
     have HSN : Hid (bY 2 0 65535 (zs.drop p2) = none → d8 zs = none) := Lib.hid fun h => by rw [HDM.out]; unfold te; rw [h]
     clear HDM
     generalize fq (zs.take p2) = cs at *
     (refine zb (fun w => IsBlk w X #[.pointer (some ⟨R, 0, none⟩)] 120) [0, 2, 3, 4] [true, false, true, true, true, false, false, false] 4 (by kernel_rfl) (by kernel_rfl) rfl (by intro o ho v c a w h; simp only [bD, List.filterMap_cons, List.filterMap_nil, List.getElem?_cons_succ, List.getElem?_cons_zero, List.mem_cons, List.not_mem_nil, or_false] at ho; rcases ho with rfl | rfl | rfl | rfl <;> exact o5 rfl (by decide) (by decide) h) inferInstance ?_; simp only [bD, List.filterMap_cons, List.filterMap_nil, List.getElem?_cons_succ, List.getElem?_cons_zero]; (apply Exists.intro; refine ⟨Or.inl ⟨rfl, fun w hS => ?_⟩, ?_⟩; (focus (first | (simp [go_sem, *]; rfl) | (simp [go_sem]; rfl))); simp only [Act.put, List.setIfInBounds_toArray, List.set_cons_succ, List.set_cons_zero]); (apply Exists.intro; refine ⟨Or.inl ⟨rfl, fun w hS => ?_⟩, ?_⟩; (focus (first | (simp [go_sem, *]; rfl) | (simp [go_sem]; rfl))); simp only [Act.put, List.setIfInBounds_toArray, List.set_cons_succ, List.set_cons_zero]); (apply Exists.intro; refine ⟨Or.inl ⟨rfl, fun w hS => ?_⟩, ?_⟩; (focus (first | (simp [go_sem, *]; rfl) | (simp [go_sem]; rfl))); simp only [Act.put, List.setIfInBounds_toArray, List.set_cons_succ, List.set_cons_zero]); (apply Exists.intro; refine ⟨Or.inl ⟨rfl, fun w hS => ?_⟩, ?_⟩; (focus (first | (simp [go_sem, *]; rfl) | (simp [go_sem]; rfl))); simp only [Act.put, List.setIfInBounds_toArray, List.set_cons_succ, List.set_cons_zero]); refine cP ?_)
     have hRd9 : RdP R w4.drew a1 cap1 zs p2 := hRd4.below ((Below.refl _ _).drew)
     have iT9 : IsBlk w4.drew w.heap.size T 34 := inferInstance
     have iF9 : IsBlk w4.drew (w.heap.size + 1) #[.int .i64 0, .int .i64 0] 37 := inferInstance
     have iX9 : IsBlk w4.drew X #[.pointer (some ⟨R, 0, none⟩)] 120 := inferInstance
     have hbw9 : Below w.heap.size w w4.drew := hbw4.drew
     have hag9 : Agr B2 w4 w4.drew := Agr.below ((Below.refl _ _).drew)
     generalize w4.drew = w9 at *
     clear iT4 iF4 iX4 hbw4 hRd4
     cases hO3 : bY 2 0 65535 (zs.drop p2) with
     | none =>
      refine bG (i := 1) (by kernel_rfl) ?_
      refine yA rfl rfl (fun K hK => ?_)
      go_wp2_with fail
      go_at_call 42; refine (HN.out _ hRd9).mono ?_; rintro e w5 h1
      rw [hO3] at h1
      obtain ⟨c, f, he, h2, h3, h4, h5⟩ := h1
      unfold aW dt at he; subst he
      haveI := h5.blk iT9 (by omega)
      haveI := h5.blk iF9 (by omega)
      refine dh rfl w.heap.size (w.heap.size + 1) T c f 0 0 w5 _ _ (by omega) HTs.out rfl rfl (fun w' hb => ?_)
      exact it.no (HSN.out hO3) h2 h3 h4 ((h5.bel _ _ (by omega) hbw9).trans (hb _ (Nat.le_refl _) (by omega)))
     | some x =>
      obtain ⟨c, r3⟩ := x
      have HS3 := Lib.hid (HSM.out c r3 hO3)
      refine bG (i := 1) (by kernel_rfl) ?_
      refine yA rfl rfl (fun K hK => ?_)
      go_wp2_with fail
      go_at_call 42; refine (HN.out _ hRd9).mono ?_; rintro e w5 h1
      rw [hO3] at h1
      obtain ⟨v, p3, rfl, rfl, hr3, hp3, h5, h6⟩ := h1
      replace iT9 := h6.blk iT9 (by omega)
      replace iF9 := h6.blk iF9 (by omega)
      replace iX9 := h6.blk iX9 (by omega)
      replace hbw9 := h6.bel _ _ (by omega) hbw9
      replace hRd9 := hRd9.mk' h5 hp3
      replace hag9 := hag9.trans (Agr.kp h6 hRB)
      clear h5 h6
      haveI := iX9
      go_wp2_with fail
      show K _ _; refine hK _ _ inferInstance ?_
      clear hK K
      haveI := iT9
      haveI := iF9
      haveI := iX9
      refine bG (i := 5) (by kernel_rfl) ?_
      refine yA rfl rfl (fun K hK => ?_)
      go_wp2_with fail
      go_at_call 45; refine (HCR.out _ hbw9).mono ?_; rintro e w6 ⟨rfl, u, rfl⟩
      replace iT9 : IsBlk u.w w.heap.size T 34 := inferInstance
      replace iF9 : IsBlk u.w (w.heap.size + 1) #[.int .i64 0, .int .i64 0] 37 := inferInstance
      replace iX9 : IsBlk u.w X #[.pointer (some ⟨R, 0, none⟩)] 120 := inferInstance
      replace hbw9 := hbw9.trans (u.bel.mono hbw9.size)
      replace hag9 := hag9.trans (Agr.below u.bel)
      replace hRd9 := hRd9.below u.bel
      haveI := iX9
      go_wp2_with fail
      show K _ _; refine hK _ _ inferInstance ?_
      clear hK K
      refine bG (i := 6) (by kernel_rfl) ?_
      refine yA rfl rfl (fun K hK => ?_)
      go_wp2_with fail
      show K _ _; refine hK _ _ inferInstance ?_
      clear hK K
      refine bG (i := 7) (by kernel_rfl) ?_
      refine yA rfl rfl (fun K hK => ?_)
      go_wp2_with fail
      show K _ _; refine hK _ _ inferInstance ?_
      clear hK K
      haveI := iT9
      haveI := iF9
      haveI := iX9
      refine ⟨by kernel_rfl, ?_⟩
      clear HSM HSN HN HCR hO3
      have hp3I : (p3 : Int) ≤ zs.length := by omega
      by_cases hc : c = cs
      ·subst hc
       have hLL := hRd9.rd
       go_wp2_with fail
       go_at_call 46; refine (Up.run (ij R _ a1 cap1 zs p3 0 0 hRd9.rd hl hp3)).mono ?_; rintro e w8 ⟨rfl, u8, rfl⟩
       have iT10 : IsBlk u8.w w.heap.size T 34 := inferInstance
       have iF10 : IsBlk u8.w (w.heap.size + 1) #[.int .i64 0, .int .i64 0] 37 := inferInstance
       by_cases hm0 : p3 < zs.length
       ·have hpos : (0 : Int) < ((zs.length - p3 : Nat) : Int) := by omega
        generalize ((zs.length - p3 : Nat) : Int) = lf at *
        go_wp2_with fail
        go_at_call 44; refine (jh R _ a1 cap1 zs p3 0 0 (hRd9.rd.below (by exact yd))).mono ?_; rintro e w' ⟨rfl, rfl⟩
        go_wp2_with fail
        refine dh rfl w.heap.size (w.heap.size + 1) T 6 p3 0 0 _ _ _ (by omega) HTs.out rfl rfl (fun w' hb => ?_)
        exact it.no (by rw [HS3.out, if_neg (by simp), if_pos (by rw [hr3, List.length_drop]; omega)]) (by decide) (by omega) (by omega) ((hbw9.trans (u8.bel.mono hbw9.size)).trans (hb _ (Nat.le_refl _) (by omega)))
       ·have hz : ((zs.length - p3 : Nat) : Int) = 0 := by omega
        rw [hz]
        clear hz
        have hTF : ag (((((u8.w.setCells w.heap.size 0 T.toList).setCell ⟨w.heap.size + 1, 0, none⟩ (.int .i64 0)).setCell ⟨w.heap.size + 1, 1, none⟩ (.int .i64 0))).alloc (.cells #[.int .i64 0, .int .i64 0] 37)) T t := by
         refine HT4.out _ (((hag9.trans (Agr.below u8.bel)).trans ⟨?_, fun j h1 h2 => ?_⟩).trans (Agr.below ((Below.refl _ _).alloc (Nat.le_refl _) _)))
         ·simp only [World.setCell, Array.size_modify, aY]; exact Nat.le_refl _
         ·rw [Below.heap_setCell _ _ _ _ (by show j ≠ w.heap.size + 1; omega), Below.heap_setCell _ _ _ _ (by show j ≠ w.heap.size + 1; omega), ar _ _ (by omega)]
        have hbF : Below w.heap.size w (((((u8.w.setCells w.heap.size 0 T.toList).setCell ⟨w.heap.size + 1, 0, none⟩ (.int .i64 0)).setCell ⟨w.heap.size + 1, 1, none⟩ (.int .i64 0))).alloc (.cells #[.int .i64 0, .int .i64 0] 37)) := by
         have h0 := (((al T.toList 0 (hbw9.trans (u8.bel.mono hbw9.size)) (Nat.le_refl w.heap.size)).setCell (p := ⟨w.heap.size + 1, 0, none⟩) (Nat.le_succ _) (.int .i64 0)).setCell (p := ⟨w.heap.size + 1, 1, none⟩) (Nat.le_succ _) (.int .i64 0))
         exact h0.alloc h0.size _
        haveI iTT : IsBlk (((u8.w.setCells w.heap.size 0 T.toList).setCell ⟨w.heap.size + 1, 0, none⟩ (.int .i64 0)).setCell ⟨w.heap.size + 1, 1, none⟩ (.int .i64 0)) w.heap.size T 34 := ⟨by rw [Below.heap_setCell _ _ _ _ (by show w.heap.size ≠ w.heap.size + 1; omega), Below.heap_setCell _ _ _ _ (by show w.heap.size ≠ w.heap.size + 1; omega), ap _ iT10.out, yp rfl]⟩
        have HTF := Lib.hid hTF
        have HBF := Lib.hid hbF
        clear hTF hbF
        haveI apF : Apart (w.heap.size + 1) w.heap.size := ⟨by omega⟩
        go_wp2_with (first | (refine ax 34 _ (C := T) rfl rfl rfl Tryz.underlying34 rfl (by rw [HTs.out]; kernel_rfl) ?_; go_simp) | (refine ac (o := 0) (cs := T) (C := T) 34 rfl rfl rfl rfl (by rw [HTs.out]; exact Nat.le_refl _) (by rw [HTs.out]; kernel_rfl) HT1.out ?_; go_simp))
        haveI iFF : IsBlk (((u8.w.setCells w.heap.size 0 T.toList).setCell ⟨w.heap.size + 1, 0, none⟩ (.int .i64 0)).setCell ⟨w.heap.size + 1, 1, none⟩ (.int .i64 0)) (w.heap.size + 1) #[.int .i64 0, .int .i64 0] 37 := (inferInstance : IsBlk _ _ _ _).cast rfl
        refine tK rfl w.heap.size (w.heap.size + 1) T 0 0 _ _ _ HTs.out rfl rfl ?_
        exact it.yes (by rw [HS3.out, if_neg (by simp), if_neg (by rw [hr3, List.length_drop]; omega)]) HTF.out HBF.out
      ·have hcb : (c == cs) = false := beq_eq_false_iff_ne.2 hc
       have HC := Lib.hid hc
       clear hc
       go_wp2_with fail
       refine dh rfl w.heap.size (w.heap.size + 1) T 5 p2 0 0 _ _ _ (by omega) HTs.out rfl rfl (fun w' hb => ?_)
       exact it.no (by rw [HS3.out, if_pos HC.out]) (by decide) (by omega) (by omega) (hbw9.trans (hb _ (Nat.le_refl _) (by omega)))
   ·have hm2 : (m == 5784065) = false := beq_eq_false_iff_ne.2 hm
    go_wp2_with fail
    haveI := iT2
    haveI := iF2
    refine dh rfl w.heap.size (w.heap.size + 1) aj 3 0 0 0 w2 _ _ (by omega) hz0.out rfl rfl (fun w' hb => ?_)
    exact it.no (rD hO hm) (by decide) (by omega) (by omega) (hbw2.trans (hb _ (Nat.le_refl _) (by omega)))
end
end Go.Proofs.YtodgfjgljcinlaaGreat
