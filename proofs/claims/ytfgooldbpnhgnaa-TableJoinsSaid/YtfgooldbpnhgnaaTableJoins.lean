/- TableJoins: the walk. Printed by wip/mktabjoins.py. -/
import Derived.Test.YtfgooldbpnhgnaaTabLaw
import Derived.Test.YtfgooldbpnhgnaaTabMany
import Derived.Test.YtfgooldbpnhgnaaOpenTab
namespace Go.Proofs.Ytfgooldbpnhgnaa
open Go.RowKit Go.Shelf
set_option linter.unusedVariables false

set_option maxRecDepth 50000 in
set_option maxHeartbeats 16000000 in
theorem tableJoins_calls (la lb lc : List W3) (A B C : Option Addr) (na ca nb cb nc cc : Nat) (w : World) (hra : Row w A 3 (la.map wC)) (hrb : Row w B 3 (lb.map wC)) (hrc : Row w C 3 (lc.map wC)) (hna : la.length = na) (hnb : lb.length = nb) (hnc : lc.length = nc) (hla : na ≤ 140737488351232) (hlb : nb ≤ 140737488351232) (hlc : nc ≤ 140737488351232) (hia : ∀ p ∈ la, okW p) (hib : ∀ p ∈ lb, okW p) (hic : ∀ p ∈ lc, okW p) :
    Calls Try.prog 5 #[.slice A na ca, .slice B nb cb, .slice C nc cc] w fun e w' => e = .returned (.bool true) ∧ Ext w w' := by
  have hm0 : (0 : Int) ≤ 4096 ∧ (4096 : Int) ≤ 1000000 := by decide
  have GA := Lib.hid (fun (u : World) (hu : Ext w u) => rgreat_calls la A na ca 4096 u (hra.ext hu) hna hla hm0 hia)
  have GB := Lib.hid (fun (u : World) (hu : Ext w u) => rgreat_calls lb B nb cb 4096 u (hrb.ext hu) hnb hlb hm0 hib)
  have GC := Lib.hid (fun (u : World) (hu : Ext w u) => rgreat_calls lc C nc cc 4096 u (hrc.ext hu) hnc hlc hm0 hic)
  have RA := Lib.hid hra
  have RB := Lib.hid hrb
  have RC := Lib.hid hrc
  have NA := Lib.hid hna
  have NB := Lib.hid hnb
  have NC := Lib.hid hnc
  clear hra hrb hrc hna hnb hnc hla hlb hlc hia hib hic hm0
  go_enter Try.func5, Try.ntmps5
  go_upto_region 5 with (first
    | (go_at_call 10; (with_reducible refine (tab_alive w).mono ?_); rintro e w1 ⟨rfl, hx1⟩)
    | (go_at_call 11; (with_reducible refine (GA.out w1 hx1).mono ?_); rintro e w2 ⟨⟨b1, rfl, hb1⟩, hx2'⟩; have hx2 := hx1.trans hx2'; have HB1 := Lib.hid hb1; clear hb1 hx2'; cases b1)
    | (go_at_call 11; (with_reducible refine (GB.out w2 hx2).mono ?_); rintro e w3 ⟨⟨b2, rfl, hb2⟩, hx3'⟩; have hx3 := hx2.trans hx3'; have HB2 := Lib.hid hb2; clear hb2 hx3'; cases b2)
    | (go_at_call 11; (with_reducible refine (GC.out w3 hx3).mono ?_); rintro e w4 ⟨⟨b3, rfl, hb3⟩, hx4'⟩; have hx4 := hx3.trans hx4'; have HB3 := Lib.hid hb3; clear hb3 hx4'; cases b3))
  all_goals try (first
    | (go_ret; exact ⟨rfl, hx2⟩)
    | (go_ret; exact ⟨rfl, hx3⟩)
    | (go_ret; exact ⟨rfl, hx4⟩))
  have h1 : na ≤ 4096 := by have := HB1.out (by trivial); omega
  have h2 : nb ≤ 4096 := by have := HB2.out (by trivial); omega
  have h3 : nc ≤ 4096 := by have := HB3.out (by trivial); omega
  clear GA GB GC HB1 HB2 HB3
  obtain ⟨X, hX⟩ : ∃ X, X = tabOf la := ⟨_, rfl⟩
  obtain ⟨Y, hY⟩ : ∃ Y, Y = tabOf lb := ⟨_, rfl⟩
  obtain ⟨Z, hZ⟩ : ∃ Z, Z = tabOf lc := ⟨_, rfl⟩
  obtain ⟨P, hP⟩ : ∃ P, P = mrg false [X, Y] := ⟨_, rfl⟩
  obtain ⟨Q, hQ⟩ : ∃ Q, Q = mrg false [Y, Z] := ⟨_, rfl⟩
  obtain ⟨S, hS⟩ : ∃ S, S = mrg true [X, Y] := ⟨_, rfl⟩
  obtain ⟨M, hM⟩ : ∃ M, M = mrg false [X, Y, Z] := ⟨_, rfl⟩
  obtain ⟨W, hW⟩ : ∃ W, W = mrg true [X, Y, Z] := ⟨_, rfl⟩
  have lX : X.length ≤ 4096 := by have := tabOf_len la; rw [NA.out] at this; rw [hX]; omega
  have lY : Y.length ≤ 4096 := by have := tabOf_len lb; rw [NB.out] at this; rw [hY]; omega
  have lZ : Z.length ≤ 4096 := by have := tabOf_len lc; rw [NC.out] at this; rw [hZ]; omega
  have f2 : ∀ U V : List W3, [U, V].flatten.length = U.length + V.length := fun U V => by simp
  have f3 : ∀ U V T : List W3, [U, V, T].flatten.length = U.length + (V.length + T.length) := fun U V T => by simp
  have lP : P.length ≤ 8192 := by have := mrg_len false [X, Y]; rw [f2] at this; rw [hP]; omega
  have lQ : Q.length ≤ 8192 := by have := mrg_len false [Y, Z]; rw [f2] at this; rw [hQ]; omega
  have lS : S.length ≤ 8192 := by have := mrg_len true [X, Y]; rw [f2] at this; rw [hS]; omega
  have lM : M.length ≤ 1000000 := by have := mrg_len false [X, Y, Z]; rw [f3] at this; rw [hM]; omega
  have lW : W.length ≤ 1000000 := by have := mrg_len true [X, Y, Z]; rw [f3] at this; rw [hW]; omega
  have MFxyz := Lib.hid (fun (x y z : Nat) (u : World) (t_x : TabAt 0 u x X) (t_y : TabAt 0 u y Y) (t_z : TabAt 0 u z Z) => show MrgC false 3 _ u M by rw [hM]; exact merge3_lit false x y z X Y Z u t_x t_y t_z (by omega))
  have MTxyz := Lib.hid (fun (x y z : Nat) (u : World) (t_x : TabAt 0 u x X) (t_y : TabAt 0 u y Y) (t_z : TabAt 0 u z Z) => show MrgC true 3 _ u W by rw [hW]; exact merge3_lit true x y z X Y Z u t_x t_y t_z (by omega))
  have MFxy := Lib.hid (fun (x y : Nat) (u : World) (t_x : TabAt 0 u x X) (t_y : TabAt 0 u y Y) => show MrgC false 2 _ u P by rw [hP]; exact merge2_lit false x y X Y u t_x t_y (by omega))
  have MTxy := Lib.hid (fun (x y : Nat) (u : World) (t_x : TabAt 0 u x X) (t_y : TabAt 0 u y Y) => show MrgC true 2 _ u S by rw [hS]; exact merge2_lit true x y X Y u t_x t_y (by omega))
  have MFyz := Lib.hid (fun (y z : Nat) (u : World) (t_y : TabAt 0 u y Y) (t_z : TabAt 0 u z Z) => show MrgC false 2 _ u Q by rw [hQ]; exact merge2_lit false y z Y Z u t_y t_z (by omega))
  have MFpz := Lib.hid (fun (p z : Nat) (u : World) (t_p : TabAt 0 u p P) (t_z : TabAt 0 u z Z) => show MrgC false 2 _ u M by rw [hM, ← join_left, ← hP]; exact merge2_lit false p z P Z u t_p t_z (by omega))
  have MFxq := Lib.hid (fun (x q : Nat) (u : World) (t_x : TabAt 0 u x X) (t_q : TabAt 0 u q Q) => show MrgC false 2 _ u M by rw [hM, ← join_right, ← hQ]; exact merge2_lit false x q X Q u t_x t_q (by omega))
  have MTsz := Lib.hid (fun (s z : Nat) (u : World) (t_s : TabAt 0 u s S) (t_z : TabAt 0 u z Z) => show MrgC true 2 _ u W by rw [hW, ← join_whole, ← hS]; exact merge2_lit true s z S Z u t_s t_z (by omega))
  have hXX : mrg false [X, X] = X := by rw [hX]; exact join_twice la
  have MFxx := Lib.hid (fun (x : Nat) (u : World) (t_x : TabAt 0 u x X) => show MrgC false 2 _ u X from hXX ▸ merge2_lit false x x X X u t_x t_x (by omega))
  have OA := Lib.hid (fun (u : World) (hu : Ext w u) => of_tab la X A na ca u (RA.out.ext hu) NA.out (by omega) hX)
  have OB := Lib.hid (fun (u : World) (hu : Ext w u) => of_tab lb Y B nb cb u (RB.out.ext hu) NB.out (by omega) hY)
  have OC := Lib.hid (fun (u : World) (hu : Ext w u) => of_tab lc Z C nc cc u (RC.out.ext hu) NC.out (by omega) hZ)
  obtain ⟨nX, hnX⟩ : ∃ n, X.length = n := ⟨_, rfl⟩
  obtain ⟨nM, hnM⟩ : ∃ n, M.length = n := ⟨_, rfl⟩
  obtain ⟨nW, hnW⟩ : ∃ n, W.length = n := ⟨_, rfl⟩
  have bX : nX ≤ 1000000 := by omega
  have bM : nM ≤ 1000000 := by omega
  have bW : nW ≤ 1000000 := by omega
  have NX := Lib.hid hnX
  have NM := Lib.hid hnM
  have NW := Lib.hid hnW
  clear hX hY hZ hP hQ hS hM hW lX lY lZ lP lQ lS lM lW f2 f3 hXX hnX hnM hnW h1 h2 h3 RA RB RC NA NB NC
  go_upto_region 6 with (first
    | (go_at_call 14; (with_reducible refine Calls.mono (OA.out w4 hx4) ?_); rintro e w5 ⟨x, rfl, t_x, k4⟩; have hx5 := hx4.trans k4)
    | (go_at_call 14; (with_reducible refine Calls.mono (OB.out w5 hx5) ?_); rintro e w6 ⟨y, rfl, t_y, k5⟩; have hx6 := hx5.trans k5; replace t_x := t_x.ext k5)
    | (go_at_call 14; (with_reducible refine Calls.mono (OC.out w6 hx6) ?_); rintro e w7 ⟨z, rfl, t_z, k6⟩; have hx := hx6.trans k6; replace t_x := t_x.ext k6; replace t_y := t_y.ext k6))
  replace MFxyz := Lib.hid (MFxyz.out x y z)
  replace MTxyz := Lib.hid (MTxyz.out x y z)
  replace MFxy := Lib.hid (MFxy.out x y)
  replace MTxy := Lib.hid (MTxy.out x y)
  replace MFyz := Lib.hid (MFyz.out y z)
  replace MFpz := Lib.hid (fun p => MFpz.out p z)
  replace MFxq := Lib.hid (MFxq.out x)
  replace MTsz := Lib.hid (fun s => MTsz.out s z)
  replace MFxx := Lib.hid (MFxx.out x)
  clear OA OB OC hx4 hx5 hx6 k4 k5 k6
  go_upto_region 7 with (first
    | (go_at_call 24; (with_reducible refine Calls.mono (MFxyz.out w7 t_x t_y t_z) ?_); rintro e w8 ⟨m, rfl, t_m, k7⟩; replace t_x := t_x.ext k7; replace t_y := t_y.ext k7; replace t_z := t_z.ext k7; replace hx := hx.trans k7))
  go_upto_region 8 with (first
    | (go_at_call 24; (with_reducible refine Calls.mono (MFxy.out w8 t_x t_y) ?_); rintro e w9 ⟨p, rfl, t_p, k8⟩; replace t_x := t_x.ext k8; replace t_y := t_y.ext k8; replace t_z := t_z.ext k8; replace t_m := t_m.ext k8; replace hx := hx.trans k8)
    | (go_at_call 24; (with_reducible refine Calls.mono (MFpz.out p w9 t_p t_z) ?_); rintro e w10 ⟨l, rfl, t_l, k9⟩; replace t_x := t_x.ext k9; replace t_y := t_y.ext k9; replace t_z := t_z.ext k9; replace t_m := t_m.ext k9; replace t_p := t_p.ext k9; replace hx := hx.trans k9))
  go_upto_region 9 with (first
    | (go_at_call 24; (with_reducible refine Calls.mono (MFyz.out w10 t_y t_z) ?_); rintro e w11 ⟨q, rfl, t_q, k10⟩; replace t_x := t_x.ext k10; replace t_y := t_y.ext k10; replace t_z := t_z.ext k10; replace t_m := t_m.ext k10; replace t_p := t_p.ext k10; replace t_l := t_l.ext k10; replace hx := hx.trans k10)
    | (go_at_call 24; (with_reducible refine Calls.mono (MFxq.out q w11 t_x t_q) ?_); rintro e w12 ⟨r, rfl, t_r, k11⟩; replace t_x := t_x.ext k11; replace t_y := t_y.ext k11; replace t_z := t_z.ext k11; replace t_m := t_m.ext k11; replace t_p := t_p.ext k11; replace t_l := t_l.ext k11; replace t_q := t_q.ext k11; replace hx := hx.trans k11))
  go_upto_region 10 with (first
    | (go_at_call 24; (with_reducible refine Calls.mono (MTxy.out w12 t_x t_y) ?_); rintro e w13 ⟨s, rfl, t_s, k12⟩; replace t_x := t_x.ext k12; replace t_y := t_y.ext k12; replace t_z := t_z.ext k12; replace t_m := t_m.ext k12; replace t_p := t_p.ext k12; replace t_l := t_l.ext k12; replace t_q := t_q.ext k12; replace t_r := t_r.ext k12; replace hx := hx.trans k12)
    | (go_at_call 24; (with_reducible refine Calls.mono (MTsz.out s w13 t_s t_z) ?_); rintro e w14 ⟨h, rfl, t_h, k13⟩; replace t_x := t_x.ext k13; replace t_y := t_y.ext k13; replace t_z := t_z.ext k13; replace t_m := t_m.ext k13; replace t_p := t_p.ext k13; replace t_l := t_l.ext k13; replace t_q := t_q.ext k13; replace t_r := t_r.ext k13; replace t_s := t_s.ext k13; replace hx := hx.trans k13))
  go_wp2_with (first
    | (go_at_call 23; (with_reducible refine Calls.mono (all_tab m M w14 t_m nM NM.out bM) ?_); rintro e w15 ⟨A1, c1, rfl, r1, k14⟩; replace t_x := t_x.ext k14; replace t_y := t_y.ext k14; replace t_z := t_z.ext k14; replace t_m := t_m.ext k14; replace t_p := t_p.ext k14; replace t_l := t_l.ext k14; replace t_q := t_q.ext k14; replace t_r := t_r.ext k14; replace t_s := t_s.ext k14; replace t_h := t_h.ext k14; replace hx := hx.trans k14)
    | (go_at_call 23; (with_reducible refine Calls.mono (all_tab l M w15 t_l nM NM.out bM) ?_); rintro e w16 ⟨A2, c2, rfl, r2, k15⟩; replace t_x := t_x.ext k15; replace t_y := t_y.ext k15; replace t_z := t_z.ext k15; replace t_m := t_m.ext k15; replace t_p := t_p.ext k15; replace t_l := t_l.ext k15; replace t_q := t_q.ext k15; replace t_r := t_r.ext k15; replace t_s := t_s.ext k15; replace t_h := t_h.ext k15; replace hx := hx.trans k15)
    | (go_at_call 22; (with_reducible refine Calls.mono (rsame_self M A1 A2 nM c1 c2 w16 (r1.ext k15) r2 NM.out (Nat.le_trans bM (by decide))) ?_); rintro e w17 ⟨rfl, k16⟩; replace t_x := t_x.ext k16; replace t_y := t_y.ext k16; replace t_z := t_z.ext k16; replace t_m := t_m.ext k16; replace t_p := t_p.ext k16; replace t_l := t_l.ext k16; replace t_q := t_q.ext k16; replace t_r := t_r.ext k16; replace t_s := t_s.ext k16; replace t_h := t_h.ext k16; replace hx := hx.trans k16)
    | (go_at_call 23; (with_reducible refine Calls.mono (all_tab m M w17 t_m nM NM.out bM) ?_); rintro e w18 ⟨A3, c3, rfl, r3, k17⟩; replace t_x := t_x.ext k17; replace t_y := t_y.ext k17; replace t_z := t_z.ext k17; replace t_m := t_m.ext k17; replace t_p := t_p.ext k17; replace t_l := t_l.ext k17; replace t_q := t_q.ext k17; replace t_r := t_r.ext k17; replace t_s := t_s.ext k17; replace t_h := t_h.ext k17; replace hx := hx.trans k17)
    | (go_at_call 23; (with_reducible refine Calls.mono (all_tab r M w18 t_r nM NM.out bM) ?_); rintro e w19 ⟨A4, c4, rfl, r4, k18⟩; replace t_x := t_x.ext k18; replace t_y := t_y.ext k18; replace t_z := t_z.ext k18; replace t_m := t_m.ext k18; replace t_p := t_p.ext k18; replace t_l := t_l.ext k18; replace t_q := t_q.ext k18; replace t_r := t_r.ext k18; replace t_s := t_s.ext k18; replace t_h := t_h.ext k18; replace hx := hx.trans k18)
    | (go_at_call 22; (with_reducible refine Calls.mono (rsame_self M A3 A4 nM c3 c4 w19 (r3.ext k18) r4 NM.out (Nat.le_trans bM (by decide))) ?_); rintro e w20 ⟨rfl, k19⟩; replace t_x := t_x.ext k19; replace t_y := t_y.ext k19; replace t_z := t_z.ext k19; replace t_m := t_m.ext k19; replace t_p := t_p.ext k19; replace t_l := t_l.ext k19; replace t_q := t_q.ext k19; replace t_r := t_r.ext k19; replace t_s := t_s.ext k19; replace t_h := t_h.ext k19; replace hx := hx.trans k19)
    | (go_at_call 24; (with_reducible refine Calls.mono (MTxyz.out w20 t_x t_y t_z) ?_); rintro e w21 ⟨g, rfl, t_g, k20⟩; replace t_x := t_x.ext k20; replace t_y := t_y.ext k20; replace t_z := t_z.ext k20; replace t_m := t_m.ext k20; replace t_p := t_p.ext k20; replace t_l := t_l.ext k20; replace t_q := t_q.ext k20; replace t_r := t_r.ext k20; replace t_s := t_s.ext k20; replace t_h := t_h.ext k20; replace hx := hx.trans k20)
    | (go_at_call 23; (with_reducible refine Calls.mono (all_tab g W w21 t_g nW NW.out bW) ?_); rintro e w22 ⟨A5, c5, rfl, r5, k21⟩; replace t_x := t_x.ext k21; replace t_y := t_y.ext k21; replace t_z := t_z.ext k21; replace t_m := t_m.ext k21; replace t_p := t_p.ext k21; replace t_l := t_l.ext k21; replace t_q := t_q.ext k21; replace t_r := t_r.ext k21; replace t_s := t_s.ext k21; replace t_h := t_h.ext k21; replace t_g := t_g.ext k21; replace hx := hx.trans k21)
    | (go_at_call 23; (with_reducible refine Calls.mono (all_tab h W w22 t_h nW NW.out bW) ?_); rintro e w23 ⟨A6, c6, rfl, r6, k22⟩; replace t_x := t_x.ext k22; replace t_y := t_y.ext k22; replace t_z := t_z.ext k22; replace t_m := t_m.ext k22; replace t_p := t_p.ext k22; replace t_l := t_l.ext k22; replace t_q := t_q.ext k22; replace t_r := t_r.ext k22; replace t_s := t_s.ext k22; replace t_h := t_h.ext k22; replace t_g := t_g.ext k22; replace hx := hx.trans k22)
    | (go_at_call 22; (with_reducible refine Calls.mono (rsame_self W A5 A6 nW c5 c6 w23 (r5.ext k22) r6 NW.out (Nat.le_trans bW (by decide))) ?_); rintro e w24 ⟨rfl, k23⟩; replace t_x := t_x.ext k23; replace t_y := t_y.ext k23; replace t_z := t_z.ext k23; replace t_m := t_m.ext k23; replace t_p := t_p.ext k23; replace t_l := t_l.ext k23; replace t_q := t_q.ext k23; replace t_r := t_r.ext k23; replace t_s := t_s.ext k23; replace t_h := t_h.ext k23; replace t_g := t_g.ext k23; replace hx := hx.trans k23)
    | (go_at_call 24; (with_reducible refine Calls.mono (MFxx.out w24 t_x) ?_); rintro e w25 ⟨d, rfl, t_d, k24⟩; replace t_x := t_x.ext k24; replace t_y := t_y.ext k24; replace t_z := t_z.ext k24; replace t_m := t_m.ext k24; replace t_p := t_p.ext k24; replace t_l := t_l.ext k24; replace t_q := t_q.ext k24; replace t_r := t_r.ext k24; replace t_s := t_s.ext k24; replace t_h := t_h.ext k24; replace t_g := t_g.ext k24; replace hx := hx.trans k24)
    | (go_at_call 23; (with_reducible refine Calls.mono (all_tab d X w25 t_d nX NX.out bX) ?_); rintro e w26 ⟨A7, c7, rfl, r7, k25⟩; replace t_x := t_x.ext k25; replace t_y := t_y.ext k25; replace t_z := t_z.ext k25; replace t_m := t_m.ext k25; replace t_p := t_p.ext k25; replace t_l := t_l.ext k25; replace t_q := t_q.ext k25; replace t_r := t_r.ext k25; replace t_s := t_s.ext k25; replace t_h := t_h.ext k25; replace t_g := t_g.ext k25; replace t_d := t_d.ext k25; replace hx := hx.trans k25)
    | (go_at_call 23; (with_reducible refine Calls.mono (all_tab x X w26 t_x nX NX.out bX) ?_); rintro e w27 ⟨A8, c8, rfl, r8, k26⟩; replace t_x := t_x.ext k26; replace t_y := t_y.ext k26; replace t_z := t_z.ext k26; replace t_m := t_m.ext k26; replace t_p := t_p.ext k26; replace t_l := t_l.ext k26; replace t_q := t_q.ext k26; replace t_r := t_r.ext k26; replace t_s := t_s.ext k26; replace t_h := t_h.ext k26; replace t_g := t_g.ext k26; replace t_d := t_d.ext k26; replace hx := hx.trans k26)
    | (go_at_call 22; (with_reducible refine Calls.mono (rsame_self X A7 A8 nX c7 c8 w27 (r7.ext k26) r8 NX.out (Nat.le_trans bX (by decide))) ?_); rintro e w28 ⟨rfl, k27⟩; replace t_x := t_x.ext k27; replace t_y := t_y.ext k27; replace t_z := t_z.ext k27; replace t_m := t_m.ext k27; replace t_p := t_p.ext k27; replace t_l := t_l.ext k27; replace t_q := t_q.ext k27; replace t_r := t_r.ext k27; replace t_s := t_s.ext k27; replace t_h := t_h.ext k27; replace t_g := t_g.ext k27; replace t_d := t_d.ext k27; replace hx := hx.trans k27))
  go_ret
  exact ⟨rfl, hx⟩
end Go.Proofs.Ytfgooldbpnhgnaa
