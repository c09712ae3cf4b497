/- Walks: auto.take. -/
import Derived.Test.YtoglgeaiiipchabDoorWTa
import Derived.Deep.RegionLaw
import Derived.Test.YtoglgeaiiipchabDoorHZ
namespace Go.Proofs.YtoglgeaiiipchabDoor
open Go Go.RowKit Go.Sort

/-- an append whose run is known, in a region that draws -/
theorem step_appR {P : Program} {w w' : World} {ops : Array Oper} {o : Oper} {a : Act} {K : Act → World → Prop} {Q : Exit → Act → World → Prop} {E : Prop} (hgd : o.guard = none) (s x : Operand) (t tn : TypeId)
    (ho : o.op = .call { callee := .builtin .append, args := #[s, x], argTypes := #[t, tn] }) (v u r : Value) (hs : a.eval s = v) (hx : a.eval x = u)
    (hrun : (Builtin.append_ #[t, tn] o.type #[v, u]).run P w = .ok r w') (h : K (a.put o.dst r) w') :
    if Region.wanted o (yielded ops a.tmps) = true then Oper.wp P o a w K Q else E := by
  have hw : Region.wanted o (yielded ops a.tmps) = true := by simp [Region.wanted, hgd]
  rw [if_pos hw]
  unfold Oper.wp execOp
  simp only [ho, resolve, invoke, builtin, Sem.run_bind, Sem.run_pure, Result.andThen_ok, List.map_toArray, List.map_cons, List.map_nil, hs, hx, hrun]
  exact h
def TkPost (W0 : World) (G : Nat) (o : Option Au) (e : Ending) (w' : World) : Prop := Below G W0 w' ∧ ∃ b : Bool, e = .returned (.bool b) ∧ match o with
  | some a' => b = true ∧ PaM W0 G a' w'
  | none => b = false
theorem PaM.cells {W0 : World} {G : Nat} {a : Au} {W : World} (h : PaM W0 G a W) : ∃ (A : Option Addr) (ca : Nat) (gv : Value) (sv : Option Addr × Nat), W.heap[G]? = some (.cells #[.int .i64 a.st, .int .i64 a.le, .slice A a.fs.length ca, gv, .slice sv.1 a.ss.length sv.2] 26 (0, 0)) := by
  obtain ⟨A, ca, gv, sv, base, h1, _⟩ := h.obj
  exact ⟨A, ca, gv, sv, h1⟩
set_option maxRecDepth 100000 in
set_option maxHeartbeats 2000000 in
theorem take1_ (W0 : World) (G : Nat) (x : List UInt8) (W : World) (hP : PaM W0 G nulA W) (hL : LaidOK W) (hx : x.length ≤ 99999) :
    Calls Tryd.prog 33 #[.pointer (some ⟨G, 0, none⟩), .int .i64 1, .string (sB x)] W (TkPost W0 G (rdLine nulA 0 x)) := by
  have HC := Lib.hid (head_ x W hL hx)
  have HP := Lib.hid hP
  clear hP hL
  go_enter Tryd.func33, Tryd.ntmps33
  go_wp2_with fail
  refine HC.out.mono ?_
  rintro e w1 ⟨hb1, hm⟩
  have HP1 := Lib.hid (HP.out.on hb1)
  obtain ⟨A, ca, gv, sv, ho⟩ := HP1.out.cells
  obtain ⟨c0, c1, c2, c3, c4, f0, f1, f2, f3, f4⟩ := obj5 ho
  have HB1 := Lib.hid hb1
  have HBG := Lib.hid (fun v0 v1 v2 v3 v4 => below_set5 HP1.out.below (Nat.le_refl _) v0 v1 v2 v3 v4)
  clear ho hb1 HC
  cases hh : hdOf x with
  | some a' =>
    rw [hh] at hm
    obtain ⟨g, rfl, hg, hrow, hf, hs, hgl, hst⟩ := hm
    have HR : Hid (TkPost W0 G (rdLine nulA 0 x) (.returned (.bool true)) (set5 w1 G (.int .i64 a'.st) (.int .i64 a'.le) (.slice none 0 0) (.slice (some ⟨g, 0, none⟩) a'.gs.length a'.gs.length) (.slice none 0 0))) := by
      refine ⟨HBG.out _ _ _ _ _, true, rfl, ?_⟩
      rw [show rdLine nulA 0 x = hdOf x from rfl, hh]
      exact ⟨rfl, HP.out.head HB1.out hg hrow hf hs (by omega)⟩
    unfold set5 at HR
    clear hrow hf hs hgl hst hg hh
    go_wp2_with fail
    go_ret
    exact HR.out
  | none =>
    rw [hh] at hm
    subst hm
    have HR : Hid (TkPost W0 G (rdLine nulA 0 x) (.returned (.bool false)) (set5 w1 G (.int .i64 0) (.int .i64 0) (.slice none 0 0) (.slice none 0 0) (.slice none 0 0))) := by
      refine ⟨HBG.out _ _ _ _ _, false, rfl, ?_⟩
      rw [show rdLine nulA 0 x = hdOf x from rfl, hh]
    unfold set5 at HR
    unfold zeroA
    clear hh
    go_wp2_with fail
    go_ret
    exact HR.out
set_option maxRecDepth 100000 in
set_option maxHeartbeats 2000000 in
theorem take2_ (W0 : World) (G : Nat) (a : Au) (x : List UInt8) (W : World) (hP : PaM W0 G a W) (hs : a.ss = []) (hL : LaidOK W) (hx : x.length ≤ 99999) :
    Calls Tryd.prog 33 #[.pointer (some ⟨G, 0, none⟩), .int .i64 2, .string (sB x)] W (TkPost W0 G (rdLine a 1 x)) := by
  have HC : Hid (Calls Tryd.prog 48 #[.string (sB x), .string ⟨#[102, 105, 114, 115, 116]⟩] W (NuPost W (wordN bFirst x))) := by
    have := numbers_ bFirst x W hL (by omega) (by decide) (by decide)
    rwa [show numsOf bFirst x = wordN bFirst x from if_neg (by decide)] at this
  have HP := Lib.hid hP
  have HS := Lib.hid hs
  clear hP hL hs
  go_enter Tryd.func33, Tryd.ntmps33
  go_wp2_with fail
  refine HC.out.mono ?_
  rintro e w1 ⟨A1, c1', ns, b, rfl, hi, hb1, hm⟩
  have HP1 := Lib.hid (HP.out.on hb1)
  obtain ⟨A, ca, gv, sv, ho⟩ := HP1.out.cells
  obtain ⟨c0, c1, c2, c3, c4, f0, f1, f2, f3, f4⟩ := obj5 ho
  have HR : Hid (TkPost W0 G (rdLine a 1 x) (.returned (.bool b)) (w1.setCell ⟨G, 2, none⟩ (.slice A1 ns.length c1'))) := by
    refine ⟨HP1.out.below.setCell (p := ⟨G, 2, none⟩) (Nat.le_refl _) _, b, rfl, ?_⟩
    show match (wordN bFirst x).map fun l => { a with fs := l } with | some a' => _ | none => _
    cases hw : wordN bFirst x with
    | none => rw [hw] at hm; exact hm
    | some m =>
      rw [hw] at hm
      obtain ⟨rfl, rfl⟩ := hm
      exact ⟨rfl, HP.out.first HS.out hb1 hi⟩
  clear ho hb1 HC hi hm
  go_wp2_with fail
  go_ret
  exact HR.out
set_option maxRecDepth 100000 in
set_option maxHeartbeats 2000000 in
theorem take3_ (W0 : World) (G : Nat) (a : Au) (x : List UInt8) (W : World) (hP : PaM W0 G a W) (hst : 1 ≤ a.st) (hgs : (a.gs.length : Int) = a.st) (hL : LaidOK W) (hx : x.length ≤ 99999) :
    Calls Tryd.prog 33 #[.pointer (some ⟨G, 0, none⟩), .int .i64 3, .string (sB x)] W (TkPost W0 G (rdLine a 2 x)) := by
  have HC : Hid (Calls Tryd.prog 48 #[.string (sB x), .string ⟨#[103, 111, 111, 100]⟩] W (NuPost W (wordN bGood x))) := by
    have := numbers_ bGood x W hL (by omega) (by decide) (by decide)
    rwa [show numsOf bGood x = wordN bGood x from if_neg (by decide)] at this
  have HP := Lib.hid hP
  have HG := Lib.hid hgs
  clear hP hL hgs
  go_enter Tryd.func33, Tryd.ntmps33
  go_wp2_with fail
  refine HC.out.mono ?_
  rintro e w1 ⟨A1, c1', ns, b, rfl, hi, hb1, hm⟩
  have HP1 := Lib.hid (HP.out.on hb1)
  obtain ⟨A, ca, gv, sv, base, o1, o2, o3, o4, o5, o6, o7, o8⟩ := HP1.out.obj
  obtain ⟨g, rfl, hGg, hgb, hrow⟩ : ∃ g, gv = .slice (some ⟨g, 0, none⟩) a.gs.length a.gs.length ∧ G < g ∧ g < base ∧ BRow w1 g a.gs := by
    rcases o6 with ⟨_, h⟩ | h
    · have := HG.out; rw [h] at this; simp at this; omega
    · exact h
  obtain ⟨c0, c1, c2, c3, c4, f0, f1, f2, f3, f4⟩ := obj5 o1
  have HNP : Hid (b = false → TkPost W0 G (rdLine a 2 x) (.returned (.bool false)) w1) := fun hb => by
    refine ⟨HP1.out.below, false, rfl, ?_⟩
    show match (match wordN bGood x with | none => none | some l => (goodsOf a.st a.gs (-1) l).map fun g => { a with gs := g }) with | some a' => _ | none => _
    cases hw : wordN bGood x with
    | none => rfl
    | some m => rw [hw] at hm; rw [hm.2] at hb; cases hb
  cases b with
  | false =>
    have HR := Lib.hid (HNP.out rfl)
    clear HC HNP hm hi hb1 o1 o2 o3 o4 o5 o6 o7 o8 hrow hGg hgb
    go_wp2_with fail
    go_ret
    exact HR.out
  | true =>
    have hw : wordN bGood x = some ns := by
      cases hw : wordN bGood x with
      | none => rw [hw] at hm; cases hm
      | some m => rw [hw] at hm; rw [hm.1]
    have HGD : Hid (Calls _ _ _ _ _) := good_ a.st a.le (.slice A a.fs.length ca) (.slice sv.1 a.ss.length sv.2) g a.gs.length a.gs A1 c1' ns w1 hrow rfl HG.out (hi.low (Nat.zero_le _)) (fun y hy => ((wordN_some hw).2 y hy).1) HP1.out.gl
    have HO1 := Lib.hid o1
    have HRW := Lib.hid hrow
    have HGG := Lib.hid hGg
    have HRD : Hid (rdLine a 2 x = (goodsOf a.st a.gs (-1) ns).map fun g => { a with gs := g }) := by
      show (match wordN bGood x with | none => none | some l => _) = _
      rw [hw]
    clear HC HNP hm hi hb1 o1 o2 o3 o4 o5 o6 o7 o8 hrow hGg hgb hw
    go_wp2_with fail
    refine HGD.out.mono ?_
    rintro e w2 ⟨b, rfl, hgr, hm⟩
    have HR : Hid (TkPost W0 G (rdLine a 2 x) (.returned (.bool b)) w2) := by
      refine ⟨HP1.out.below.grown hgr (Nat.le_of_lt HP1.out.lt) (fun k hk => by have := HGG.out; simp at hk; omega), b, rfl, ?_⟩
      rw [HRD.out]
      cases hgo : goodsOf a.st a.gs (-1) ns with
      | none => rw [hgo] at hm; exact hm
      | some gs =>
        rw [hgo] at hm
        obtain ⟨rfl, hrow2⟩ := hm
        exact ⟨rfl, HP1.out.good HGG.out hgr hrow2 (goodsOf_len hgo) ⟨_, _, _, HO1.out⟩ HRW.out⟩
    clear hgr hm c0 c1 c2 c3 c4
    go_wp2_with fail
    go_ret
    exact HR.out
set_option maxRecDepth 100000 in
set_option maxHeartbeats 4000000 in
theorem take4_ (W0 : World) (G : Nat) (a : Au) (i : Nat) (x : List UInt8) (W : World) (hP : PaM W0 G a W) (hi3 : 3 ≤ i) (hi4 : i ≤ 200000) (hL : LaidOK W) (hx : x.length ≤ 99999) (hs : a.ss.length < 200000) :
    Calls Tryd.prog 33 #[.pointer (some ⟨G, 0, none⟩), .int .i64 ((i : Int) + 1), .string (sB x)] W (TkPost W0 G (rdLine a i x)) := by
  have HC : Hid (Calls Tryd.prog 48 #[.string (sB x), .string ⟨#[]⟩] W (NuPost W (undL (splitL 32 x)))) := by
    have := numbers_ [] x W hL (by omega) (by decide) (by decide)
    rwa [show numsOf [] x = undL (splitL 32 x) from if_pos rfl] at this
  have HP := Lib.hid hP
  have HRD : Hid (rdLine a i x = match undL (splitL 32 x) with | some [f, l, t] => some { a with ss := a.ss ++ [⟨f, l, t⟩] } | _ => none) := by
    obtain ⟨j, rfl⟩ : ∃ j, i = j + 3 := ⟨i - 3, by omega⟩
    rfl
  have e1 : ((i : Int) + 1 == 1) = false := by simp; omega
  have e2 : ((i : Int) + 1 == 2) = false := by simp; omega
  have e3 : ((i : Int) + 1 == 3) = false := by simp; omega
  clear hP hL hi3 hi4
  go_enter Tryd.func33, Tryd.ntmps33
  go_wp2_with fail
  refine HC.out.mono ?_
  rintro e w1 ⟨A1, c1', ns, b, rfl, hi, hb1, hm⟩
  have HP1 := Lib.hid (HP.out.on hb1)
  have HN1 : Hid (rdLine a i x = none → TkPost W0 G (rdLine a i x) (.returned (.bool false)) w1) := fun hb => ⟨HP1.out.below, false, rfl, by rw [hb]⟩
  cases b with
  | false =>
    have hn : undL (splitL 32 x) = none := by
      cases hu : undL (splitL 32 x) with
      | none => rfl
      | some m => rw [hu] at hm; cases hm.2
    have HR := Lib.hid (HN1.out (by rw [HRD.out, hn]))
    clear HC hm hi hb1 hn HN1
    go_wp2_with fail
    go_ret
    exact HR.out
  | true =>
    have hn : undL (splitL 32 x) = some ns := by
      cases hu : undL (splitL 32 x) with
      | none => rw [hu] at hm; cases hm
      | some m => rw [hu] at hm; rw [hm.1]
    by_cases h3 : ns.length = 3
    · obtain ⟨f, l, t, rfl⟩ : ∃ f l t, ns = [f, l, t] := by
        match ns, h3 with
        | [f, l, t], _ => exact ⟨f, l, t, rfl⟩
      have hdw : Below w1.heap.size w1 w1.drew := (Below.refl _ _).drew
      obtain ⟨gb, go_, rfl, hgW, hgl, z0⟩ := Ints.at_ (hi.below hdw) (k := 0) (by simp)
      obtain ⟨gb', go', hgg, _, _, z1⟩ := Ints.at_ (hi.below hdw) (k := 1) (by simp)
      obtain ⟨rfl, rfl⟩ : gb = gb' ∧ go_ = go' := by simpa using hgg
      obtain ⟨gb', go', hgg2, _, _, z2⟩ := Ints.at_ (hi.below hdw) (k := 2) (by simp)
      obtain ⟨rfl, rfl⟩ : gb = gb' ∧ go_ = go' := by simpa using hgg2
      simp only [List.getElem_cons_zero, List.getElem_cons_succ, Nat.add_zero] at z0 z1 z2
      have hcl := hi.le
      simp only [List.length_cons, List.length_nil, Nat.zero_add, Nat.reduceAdd] at hcl ⊢
      obtain ⟨A, ca, gv, T, c, o1, hlc, hcm, T3, c3, w3, hrun, q4, f4, hgr, -, hPM⟩ := (HP1.out.on hdw).step ⟨f, l, t⟩ hs
      have hTb : ∀ k, (Value.slice T a.ss.length c).ownBlock = some k → k < W.heap.size := by
        obtain ⟨A9, ca9, gv9, T9, c9, o9, _, _, _, _, _, _, _, _, _, hlt9, _⟩ := HP.out.step ⟨f, l, t⟩ hs
        have h2 := (hdw.block G HP1.out.lt).trans ((hb1.block G HP.out.lt).trans o9)
        rw [o1] at h2
        simp at h2
        obtain ⟨_, _, hT, hc⟩ := h2
        rw [hT, hc]
        exact hlt9
      obtain ⟨c0, c1, c2, c3', c4, f0, f1, f2, f3, f4'⟩ := obj5 o1
      have HR : Hid (TkPost W0 G (rdLine a i x) (.returned (.bool true)) (w3.setCell ⟨G, 4, none⟩ (.slice T3 (a.ss.length + 1) c3))) := ⟨hPM.below, true, rfl, by rw [HRD.out, hn]; exact ⟨rfl, hPM⟩⟩
      have HRUN : Hid ((Builtin.append_ #[24, 24] 24 #[.slice T a.ss.length c, .slice (some ⟨w1.heap.size, 0, none⟩) 1 1]).run Tryd.prog (w1.alloc (Obj.cells #[.int .i64 f, .int .i64 l, .int .i64 t] 54)).drew = .ok (.slice T3 (a.ss.length + 1) c3) w3) := hrun
      clear HC hm hi hb1 hn HN1 h3 hdw hgg hgg2 o1 hrun hPM c0 c1 c2 c3' f0 f1 f2 f3
      have hGl : G < w1.drew.heap.size := HP1.out.lt
      have c5 : (w1.alloc (Obj.cells #[.int .i64 f, .int .i64 l, .int .i64 t] 54)).drew.cell? ⟨G, 4, none⟩ = some (.slice T a.ss.length c) := ((((Below.refl _ w1).alloc (Nat.le_refl _) _).drew).cell (p := ⟨G, 4, none⟩) hGl).trans c4
      have hb6 : Below w1.heap.size w1 (w1.alloc (Obj.cells #[.int .i64 f, .int .i64 l, .int .i64 t] 54)).drew := ((Below.refl _ w1).alloc (Nat.le_refl _) _).drew
      have hne : some gb ≠ (Value.slice T a.ss.length c).ownBlock := fun e => by have := hTb gb e.symm; omega
      have z06 := (hb6.cell (p := ⟨gb, go_, none⟩) hgl).trans z0
      have z16 := (hb6.cell (p := ⟨gb, go_ + 1, none⟩) hgl).trans z1
      have z26 := (hb6.cell (p := ⟨gb, go_ + 2, none⟩) hgl).trans z2
      have z05 := hgr.cell z06 hne
      have z15 := hgr.cell z16 hne
      have z25 := hgr.cell z26 hne
      clear hgr hb6 hne hTb
      go_upto_region 6 with fail
      refine wp_region_Z (fun w' => w'.cell? ⟨G, 4, none⟩ = some (.slice T a.ss.length c) ∧ w'.cell? ⟨gb, go_, none⟩ = some (.int .i64 f) ∧ w'.cell? ⟨gb, go_ + 1, none⟩ = some (.int .i64 l) ∧ w'.cell? ⟨gb, go_ + 2, none⟩ = some (.int .i64 t)) 19 (by kernel_rfl) ?_
      refine wpAnyZ_take (i := 0) (v := ?v0) rfl (by kernel_rfl) (by kernel_rfl) (by kernel_rfl) (by kernel_rfl) (by kernel_rfl) (fun _ _ _ h => h) (Or.inl ⟨by rfl, ?hy0⟩) ⟨c4, z0, z1, z2⟩ ?rest0
      case hy0 => (intro w' hw'; obtain ⟨h0, h1, h2, h3⟩ := hw'; go_simp; (try with_reducible rfl))
      (try simp only [Act.put, List.setIfInBounds_toArray, List.set_cons_zero, List.set_cons_succ])
      refine wpAnyZ_take (i := 1) (v := ?v1) rfl (by kernel_rfl) (by kernel_rfl) (by kernel_rfl) (by kernel_rfl) (by kernel_rfl) (fun _ _ _ h => h) (Or.inl ⟨by rfl, ?hy1⟩) ⟨c4, z0, z1, z2⟩ ?rest1
      case hy1 => (intro w' hw'; obtain ⟨h0, h1, h2, h3⟩ := hw'; go_simp; (try with_reducible rfl))
      (try simp only [Act.put, List.setIfInBounds_toArray, List.set_cons_zero, List.set_cons_succ])
      refine wpAnyZ_take (i := 2) (v := ?v2) rfl (by kernel_rfl) (by kernel_rfl) (by kernel_rfl) (by kernel_rfl) (by kernel_rfl) (fun _ _ _ h => h) (Or.inl ⟨by rfl, ?hy2⟩) ⟨c4, z0, z1, z2⟩ ?rest2
      case hy2 => (intro w' hw'; obtain ⟨h0, h1, h2, h3⟩ := hw'; go_simp; (try with_reducible rfl))
      (try simp only [Act.put, List.setIfInBounds_toArray, List.set_cons_zero, List.set_cons_succ])
      refine wpAnyZ_take (i := 3) (v := ?v3) rfl (by kernel_rfl) (by kernel_rfl) (by kernel_rfl) (by kernel_rfl) (by kernel_rfl) (fun _ _ _ h => h) (Or.inl ⟨by rfl, ?hy3⟩) ⟨c4, z0, z1, z2⟩ ?rest3
      case hy3 => (intro w' hw'; obtain ⟨h0, h1, h2, h3⟩ := hw'; go_simp; (try with_reducible rfl))
      (try simp only [Act.put, List.setIfInBounds_toArray, List.set_cons_zero, List.set_cons_succ])
      refine wpAnyZ_take (i := 4) (v := ?v4) rfl (by kernel_rfl) (by kernel_rfl) (by kernel_rfl) (by kernel_rfl) (by kernel_rfl) (fun _ _ _ h => h) (Or.inl ⟨by rfl, ?hy4⟩) ⟨c4, z0, z1, z2⟩ ?rest4
      case hy4 => (intro w' hw'; obtain ⟨h0, h1, h2, h3⟩ := hw'; go_simp; (try with_reducible rfl))
      (try simp only [Act.put, List.setIfInBounds_toArray, List.set_cons_zero, List.set_cons_succ])
      refine wpAnyZ_take (i := 5) (v := ?v5) rfl (by kernel_rfl) (by kernel_rfl) (by kernel_rfl) (by kernel_rfl) (by kernel_rfl) (fun _ _ _ h => h) (Or.inl ⟨by rfl, ?hy5⟩) ⟨c4, z0, z1, z2⟩ ?rest5
      case hy5 => (intro w' hw'; obtain ⟨h0, h1, h2, h3⟩ := hw'; go_simp; (try with_reducible rfl))
      (try simp only [Act.put, List.setIfInBounds_toArray, List.set_cons_zero, List.set_cons_succ])
      refine wpAnyZ_take (i := 6) (v := ?v6) rfl (by kernel_rfl) (by kernel_rfl) (by kernel_rfl) (by kernel_rfl) (by kernel_rfl) (fun _ _ _ h => h) (Or.inl ⟨by rfl, ?hy6⟩) ⟨c4, z0, z1, z2⟩ ?rest6
      case hy6 => (intro w' hw'; obtain ⟨h0, h1, h2, h3⟩ := hw'; go_simp; (try with_reducible rfl))
      (try simp only [Act.put, List.setIfInBounds_toArray, List.set_cons_zero, List.set_cons_succ])
      refine wpAnyZ_take (i := 7) (v := ?v7) rfl (by kernel_rfl) (by kernel_rfl) (by kernel_rfl) (by kernel_rfl) (by kernel_rfl) (fun _ _ _ h => h) (Or.inl ⟨by rfl, ?hy7⟩) ⟨c4, z0, z1, z2⟩ ?rest7
      case hy7 => (intro w' hw'; obtain ⟨h0, h1, h2, h3⟩ := hw'; go_simp; (try with_reducible rfl))
      (try simp only [Act.put, List.setIfInBounds_toArray, List.set_cons_zero, List.set_cons_succ])
      refine wpAnyZ_take (i := 8) (v := ?v8) rfl (by kernel_rfl) (by kernel_rfl) (by kernel_rfl) (by kernel_rfl) (by kernel_rfl) (fun _ _ _ h => h) (Or.inl ⟨by rfl, ?hy8⟩) ⟨c4, z0, z1, z2⟩ ?rest8
      case hy8 => (intro w' hw'; obtain ⟨h0, h1, h2, h3⟩ := hw'; go_simp; (try with_reducible rfl))
      (try simp only [Act.put, List.setIfInBounds_toArray, List.set_cons_zero, List.set_cons_succ])
      refine wpAnyZ_take (i := 9) (v := ?v9) rfl (by kernel_rfl) (by kernel_rfl) (by kernel_rfl) (by kernel_rfl) (by kernel_rfl) (fun _ _ _ h => h) (Or.inl ⟨by rfl, ?hy9⟩) ⟨c4, z0, z1, z2⟩ ?rest9
      case hy9 => (intro w' hw'; obtain ⟨h0, h1, h2, h3⟩ := hw'; go_simp; (try with_reducible rfl))
      (try simp only [Act.put, List.setIfInBounds_toArray, List.set_cons_zero, List.set_cons_succ])
      refine wpAnyZ_take (i := 10) (v := ?v10) rfl (by kernel_rfl) (by kernel_rfl) (by kernel_rfl) (by kernel_rfl) (by kernel_rfl) (fun _ _ _ h => h) (Or.inl ⟨by rfl, ?hy10⟩) ⟨c4, z0, z1, z2⟩ ?rest10
      case hy10 => (intro w' hw'; obtain ⟨h0, h1, h2, h3⟩ := hw'; go_simp; (try with_reducible rfl))
      (try simp only [Act.put, List.setIfInBounds_toArray, List.set_cons_zero, List.set_cons_succ])
      refine wpAnyZ_take (i := 11) (v := ?v11) rfl (by kernel_rfl) (by kernel_rfl) (by kernel_rfl) (by kernel_rfl) (by kernel_rfl) (fun _ _ _ h => h) (Or.inl ⟨by rfl, ?hy11⟩) ⟨c4, z0, z1, z2⟩ ?rest11
      case hy11 => (intro w' hw'; obtain ⟨h0, h1, h2, h3⟩ := hw'; go_simp; (try with_reducible rfl))
      (try simp only [Act.put, List.setIfInBounds_toArray, List.set_cons_zero, List.set_cons_succ])
      refine wpAnyZ_take (i := 12) (v := ?v12) rfl (by kernel_rfl) (by kernel_rfl) (by kernel_rfl) (by kernel_rfl) (by kernel_rfl) (fun _ _ _ h => h) (Or.inl ⟨by rfl, ?hy12⟩) ⟨c4, z0, z1, z2⟩ ?rest12
      case hy12 => (intro w' hw'; obtain ⟨h0, h1, h2, h3⟩ := hw'; go_simp; (try with_reducible rfl))
      (try simp only [Act.put, List.setIfInBounds_toArray, List.set_cons_zero, List.set_cons_succ])
      refine wpAnyZ_take (i := 13) (v := ?v13) rfl (by kernel_rfl) (by kernel_rfl) (by kernel_rfl) (by kernel_rfl) (by kernel_rfl) (fun _ _ _ h => h) (Or.inl ⟨by rfl, ?hy13⟩) ⟨c4, z0, z1, z2⟩ ?rest13
      case hy13 => (intro w' hw'; obtain ⟨h0, h1, h2, h3⟩ := hw'; go_simp; (try with_reducible rfl))
      (try simp only [Act.put, List.setIfInBounds_toArray, List.set_cons_zero, List.set_cons_succ])
      refine wpAnyZ_take (i := 14) (v := ?v14) rfl (by kernel_rfl) (by kernel_rfl) (by kernel_rfl) (by kernel_rfl) (by kernel_rfl) (fun _ _ _ h => h) (Or.inl ⟨by rfl, ?hy14⟩) ⟨c4, z0, z1, z2⟩ ?rest14
      case hy14 => (intro w' hw'; obtain ⟨h0, h1, h2, h3⟩ := hw'; go_simp; (try with_reducible rfl))
      (try simp only [Act.put, List.setIfInBounds_toArray, List.set_cons_zero, List.set_cons_succ])
      refine wpAnyZ_one (i := 15) rfl (by kernel_rfl) (fun K hK => ?_)
      go_simp
      refine hK.out _ _ (.inr ⟨c5, z06, z16, z26⟩) ?_
      clear hK K
      (try simp only [Act.put, List.setIfInBounds_toArray, List.set_cons_zero, List.set_cons_succ])
      refine wpAnyZ_one (i := 16) rfl (by kernel_rfl) (fun K hK => ?_)
      refine step_appR rfl (.tmp 26) (.tmp 37) _ _ rfl (.slice T a.ss.length c) (.slice (some ⟨w1.heap.size, 0, none⟩) 1 1) (.slice T3 (a.ss.length + 1) c3) (by go_simp) (by go_simp) HRUN.out ?_
      refine hK.out _ _ (.inr ⟨q4, z05, z15, z25⟩) ?_
      clear hK K
      (try simp only [Act.put, List.setIfInBounds_toArray, List.set_cons_zero, List.set_cons_succ])
      refine wpAnyZ_take (i := 17) (v := ?v17) rfl (by kernel_rfl) (by kernel_rfl) (by kernel_rfl) (by kernel_rfl) (by kernel_rfl) (fun _ _ _ h => h) (Or.inl ⟨by rfl, ?hy17⟩) ⟨q4, z05, z15, z25⟩ ?rest17
      case hy17 => (intro w' hw'; obtain ⟨h0, h1, h2, h3⟩ := hw'; go_simp; (try with_reducible rfl))
      (try simp only [Act.put, List.setIfInBounds_toArray, List.set_cons_zero, List.set_cons_succ])
      refine wpAnyZ_take (i := 18) (v := ?v18) rfl (by kernel_rfl) (by kernel_rfl) (by kernel_rfl) (by kernel_rfl) (by kernel_rfl) (fun _ _ _ h => h) (Or.inl ⟨by rfl, ?hy18⟩) ⟨q4, z05, z15, z25⟩ ?rest18
      case hy18 => (intro w' hw'; obtain ⟨h0, h1, h2, h3⟩ := hw'; go_simp; (try with_reducible rfl))
      (try simp only [Act.put, List.setIfInBounds_toArray, List.set_cons_zero, List.set_cons_succ])
      refine wpAnyZ_one (i := 19) rfl (by kernel_rfl) (fun K hK => ?_)
      go_simp
      refine hK.out _ _ (.inl rfl) ?_
      clear hK K
      refine wpAnyZ_done (by kernel_rfl) ?_ _
      go_wp2_with fail
      go_ret
      exact HR.out
    · have e4 : ((ns.length : Int) == 3) = false := by simp; omega
      have hr : rdLine a i x = none := by
        rw [HRD.out, hn]
        split
        · rename_i hh
          simp at hh
          rw [hh] at h3
          simp at h3
        · rfl
      have HR := Lib.hid (HN1.out hr)
      clear HC hm hi hb1 hn HN1 hr h3
      go_wp2_with fail
      go_ret
      exact HR.out
end Go.Proofs.YtoglgeaiiipchabDoor
