import Derived.Test.YtoglgeaiiipchabGreatDoorLMHKM2
import Derived.Test.YtoglgeaiiipchabGreatDoorLMHKM3
import Derived.WalkSpells
import Derived.Test.YtoglgeaiiipchabGreatDoorLMHKM4
import Derived.Maps.OwnIn
import Derived.Maps.Ext
import Derived.DeepKeys4
import Derived.Test.YtoglgeaiiipchabGreatDoorLMHKM1
import Derived.Test.YtoglgeaiiipchabGreatDoorProg
import Derived.ChangeKeysEq
import Derived.Maps.RangeWalk
set_option linter.unusedSimpArgs false
set_option linter.unusedVariables false
namespace Go.Proofs.YtoglgeaiiipchabGreatDoor
open Go Go.RowKit Go.Shelf
def IntOwn (W : World) (lo : Nat) (v : Value) (xs : List Int) : Prop := W.ownsRow lo 3 1 v xs.length (xs.flatMap fun n : Int => [Value.int .i64 n])
theorem IntOwn.pop {W : World} {lo n c : Nat} {A : Option Addr} {xs : List Int} {y : Int} (h : IntOwn W lo (.slice A n c) (xs ++ [y])) : IntOwn W lo (.slice A xs.length c) xs := by
  obtain ⟨h1, h2⟩ := h
  refine ⟨flatMap_len (sz := 1) (fun _ => rfl) xs, ?_⟩
  rcases h2 with ⟨_, h2⟩ | ⟨g, cap, cur, hv, hg, hh, hn, hc, hs, ht⟩
  · simp at h2
  · simp at hv
    obtain ⟨rfl, rfl, rfl⟩ := hv
    rw [List.length_append] at hn ht
    refine .inr ⟨g, c, cur, rfl, hg, hh, by simp at hn; omega, hc, hs, ?_⟩
    have hfl := flatMap_len (enc := fun n : Int => [Value.int .i64 n]) (sz := 1) (fun _ => rfl) xs
    have h3 := congrArg (List.take (xs.length * 1)) ht
    rw [List.take_take, Nat.min_eq_left (by simp), List.flatMap_append, ← hfl, List.take_left] at h3
    rw [← hfl]
    exact h3
theorem run_append_int {W : World} {lo : Nat} {v : Value} {xs : List Int} {y : Int} {B : Nat} (ty : TypeId) (hown : IntOwn W lo v xs) (hB : W.heap[B]? = some (.cells #[.int .i64 y] 3 (0, 0))) (hl : xs.length ≤ 10000000) (hlo : lo ≤ W.heap.size) :
    ∃ v' W', (Builtin.append_ #[22, 22] ty #[v, .slice (some ⟨B, 0, none⟩) 1 1]).run Tryz.prog W = .ok v' W' ∧ IntOwn W' lo v' (xs ++ [y]) ∧ W.grownBy W' v.ownBlock ∧ (v'.ownBlock = v.ownBlock ∨ v'.ownBlock = some W.heap.size) := by
  obtain ⟨i0, hi0, hz0, hz1, hz2⟩ := info_parts infoInt
  have hnews : ∀ j u, [Value.int .i64 y][j]? = some u → W.cell? ((⟨B, 0, none⟩ : Addr).add j) = some u := fun j u hu => by
    rw [Addr_add_off]
    simp only [World.cell?, hB, Nat.zero_add]
    match j, hu with
    | 0, hu => simpa using hu
  obtain ⟨v', W', hrun, ho, hg, _, hat⟩ := run_append_own_at (P := Tryz.prog) W lo 22 ty 3 i0 _ 1 8 Tryz.underlying22 hi0 hz0 hz1 hz2 rfl (by decide) v xs.length _ hown ⟨B, 0, none⟩ 1 1 [.int .i64 y] rfl hnews (by simp [Value.oneCell']) (by unfold maxLen; omega) (by omega) hlo
  refine ⟨v', W', hrun, ?_, hg, hat⟩
  unfold IntOwn
  rw [List.length_append, List.flatMap_append]
  simpa using ho
theorem wpListIn_app_int {W : World} {lo : Nat} {v : Value} {xs : List Int} {Fn : Fence} {n : Nat} {ops : Array Oper} {rest : List Oper} {o : Oper} {a : Act} {Q : Exit → Act → World → Prop} (hgd : o.guard = none) (s x : Operand)
    (ho : o.op = .call { callee := .builtin .append, args := #[s, x], argTypes := #[22, 22] }) {y : Int} {B : Nat} (hs : a.eval s = v) (hx : a.eval x = .slice (some ⟨B, 0, none⟩) 1 1)
    (hown : IntOwn W lo v xs) (hB : W.heap[B]? = some (.cells #[.int .i64 y] 3 (0, 0))) (hl : xs.length ≤ 10000000) (hlo : lo ≤ W.heap.size)
    (h : ∀ v' W', IntOwn W' lo v' (xs ++ [y]) → W.grownBy W' v.ownBlock → (v'.ownBlock = v.ownBlock ∨ v'.ownBlock = some W.heap.size) → wpListIn Fn n Tryz.prog ops Q rest (a.put o.dst v') W') :
    wpListIn Fn n Tryz.prog ops Q (o :: rest) a W := by
  refine wpListIn_plain hgd fun K' hK' => ?_
  obtain ⟨v', W', hrun, h1, h2, h3⟩ := run_append_int o.type hown hB hl hlo
  unfold Oper.wpIn
  refine ⟨by simp [Oper.about, ho, resolve, Target.leads, Sem.run_pure], ?_⟩
  rw [Oper.semAt_plain Fn _ _ (by rw [ho]; intro c hc'; cases hc')]
  simp [execOp, ho, resolve, invoke, builtin, hs, hx, hrun, Result.andThen]
  exact hK' _ _ (h v' W' h1 h2 h3)
def ClonePost (w : World) (xs : List Int) (e : Ending) (w' : World) : Prop := ∃ v, e = .returned v ∧ IntOwn w' w.heap.size v xs ∧ Below w.heap.size w w'
set_option maxRecDepth 100000 in
theorem CloneO_ (A : Option Addr) (c : Nat) (xs : List Int) (w : World) (hx : Ints w 0 A c xs) :
    Calls Tryz.prog 32 #[.slice A xs.length c] w (ClonePost w xs) := by
  obtain ⟨i0, hi0, hz0, hz1, hz2⟩ := info_parts infoInt
  have hmax := hx.max
  have q24 : ∀ (w : World) (a : Option Addr) (n c n' c' : Nat), (binOp .eql 22 (.slice a n c) (.slice none n' c')).run Tryz.prog w = .ok (.bool a.isNone) w := fun w a n c n' c' => Lib.run_eql_slice_nil w _ _ a n c n' c' Tryz.underlying22
  cases A with
  | none =>
    have hxs : xs = [] := by
      cases xs with
      | nil => rfl
      | cons x r =>
        obtain ⟨b, off, h, _⟩ := hx.rd (by simp)
        cases h
    subst hxs
    have HP : Hid (ClonePost w [] (.returned (.slice none 0 0)) w) := ⟨_, rfl, World.ownsRow_nil _ _ _ _, Below.refl _ _⟩
    go_enter Tryz.func32, Tryz.ntmps32
    go_wp2_with fail
    go_ret
    exact HP.out
  | some a =>
    have HX := Lib.hid (hx.rd.below (w' := w.alloc (Obj.cells #[] 3)) ((Below.refl _ _).alloc (Nat.le_refl _) _) (Nat.le_refl _))
    have HO := Lib.hid (own_empty (w := w) (base := w.heap.size) 3 1 (Nat.le_refl _))
    have m2 : (0 + xs.length) * 8 ≤ 140737488355328 := by omega
    have m3 : 0 + xs.length ≤ maxLen := by simp only [maxLen]; omega
    have m4 : w.heap.size ≤ (w.alloc (Obj.cells #[] 3)).heap.size := by simp
    have HM := Lib.hid hmax
    clear hx hmax
    go_enter Tryz.func32, Tryz.ntmps32
    go_wp2_with (at_builtin; refine wpList_app _ rfl (.tmp 5) (.tmp 6) _ rfl w.heap.size 3 i0 _ 1 8 Tryz.underlying22 hi0 hz0 hz1 hz2 rfl (by decide) (.slice (some ⟨w.heap.size, 0, none⟩) 0 0) 0 [] rfl HO.out (some a) xs.length c _ rfl (flatMap_len (sz := 1) (fun _ => rfl) _) HX.out (ints_oneCell _) m3 m2 m4 ?_; intro v2 w2 hown2 hg2 hat2)
    have HP : Hid (ClonePost w xs (.returned v2) w2) := by
      refine ⟨v2, rfl, ?_, grownOwn_ ((Below.refl _ _).alloc (Nat.le_refl _) _) hg2 HO.out (Nat.le_refl _) (by simp)⟩
      unfold IntOwn
      simpa using hown2
    clear hown2 hg2 hat2
    go_wp2_with fail
    go_ret
    exact HP.out
structure RcMem (w : World) (F G T n : Nat) (out : List Bool) (left : List Int) (v : Value) (W : World) : Prop where
  below : Below w.heap.size w W
  box : Boxed W F 22 v
  fr : IntOwn W w.heap.size v left
  row : BRow W G out
  t5 : Boxed W T 23 (.slice (some ⟨G, 0, none⟩) n n)
  lF : w.heap.size ≤ F
  lG : w.heap.size ≤ G
section
variable {F G T n : Nat} {w W W' : World} {v : Value} {out : List Bool} {left : List Int}
theorem RcMem.FG (h : RcMem w F G T n out left v W) : F ≠ G := by
  rintro rfl
  have h1 : W.heap[F]? = _ := h.box
  have h2 : W.heap[F]? = _ := h.row
  rw [h1] at h2
  simp at h2
theorem RcMem.FT (h : RcMem w F G T n out left v W) : F ≠ T := by
  rintro rfl
  have h1 : W.heap[F]? = _ := h.box
  have h2 : W.heap[F]? = _ := h.t5
  rw [h1] at h2
  simp at h2
theorem RcMem.GT (h : RcMem w F G T n out left v W) : T ≠ G := by
  rintro rfl
  have h1 : W.heap[T]? = _ := h.t5
  have h2 : W.heap[T]? = _ := h.row
  rw [h1] at h2
  simp at h2
theorem RcMem.nG (h : RcMem w F G T n out left v W) : v.ownBlock ≠ some G := fun e => by
  obtain ⟨g, hg⟩ : ∃ g, v.ownBlock = some g := ⟨_, e⟩
  rcases h.fr.2 with ⟨rfl, _⟩ | ⟨g', cap, cur, rfl, _, hh, _⟩
  · cases e
  · obtain rfl : g' = G := by simpa [Value.ownBlock] using e
    have h2 : W.heap[g']? = _ := h.row
    rw [hh] at h2
    simp at h2
theorem RcMem.on (h : RcMem w F G T n out left v W) (hb : Below W.heap.size W W') : RcMem w F G T n out left v W' := by
  have hg : W.grownBy W' none := ⟨hb.os, hb.tape, hb.output, hb.size, fun k hk _ => hb.block k hk⟩
  exact ⟨Below_on h.below hb h.below.size, h.box.kept hg (by simp), own_below h.fr hb, h.row.below hb h.row.lt, h.t5.kept hg (by simp), h.lF, h.lG⟩
theorem RcMem.own {m : Nat} (hm : w.heap.size ≤ m) {row : Option Nat} (h : RcMem w F G T n out left v W) (hg : W.grownBy W' row) (hr : ∀ r, row = some r → m ≤ r ∧ ∃ o : Obj, W.heap[r]? = some o ∧ o.isCells = false) : RcMem w F G T n out left v W' := by
  have cl : ∀ {k : Nat} {o : Obj}, W.heap[k]? = some o → o.isCells = true → some k ≠ row := fun hk ho e => by
    obtain ⟨_, o', h1, h2⟩ := hr _ e.symm
    rw [hk] at h1
    rw [← Option.some.inj h1, ho] at h2
    cases h2
  refine ⟨h.below.grown hg h.below.size (fun k hk => by have := (hr k hk).1; omega), h.box.kept hg (cl h.box rfl), World.ownsRow.kept h.fr hg ?_, h.row.grown hg (cl h.row rfl), h.t5.kept hg (cl h.t5 rfl), h.lF, h.lG⟩
  cases hv : v.ownBlock with
  | none => exact .inl rfl
  | some r =>
    obtain ⟨ob, h1, h2⟩ := own_cells h.fr hv
    exact .inr (cl h1 h2)
theorem RcMem.set {u : Value} {left' : List Int} (h : RcMem w F G T n out left v W) (hu : IntOwn W w.heap.size u left') : RcMem w F G T n out left' u (W.setCell ⟨F, 0, none⟩ u) := by
  have hg := grownBy_setCell' W F u
  exact ⟨h.below.setCell (p := ⟨F, 0, none⟩) h.lF _, h.box.set u, World.ownsRow.kept hu hg (.inr (h.box.not_row (by decide) hu).symm), h.row.set_far (by exact fun e => h.FG e.symm) _, h.t5.kept hg (by simpa using h.FT.symm), h.lF, h.lG⟩
theorem RcMem.mark (h : RcMem w F G T n out left v W) (i : Nat) : RcMem w F G T n (out.set i true) left v (W.setCell ⟨G, i, none⟩ (.bool true)) := by
  have hg : W.grownBy (W.setCell ⟨G, i, none⟩ (.bool true)) (some G) := ⟨rfl, rfl, rfl, by simp [World.setCell], fun k _ hk => Below.heap_setCell _ _ _ _ (fun e => hk (by rw [show k = G from e]))⟩
  exact ⟨h.below.setCell (p := ⟨G, i, none⟩) h.lG _, h.box.kept hg (by simpa using h.FG), World.ownsRow.kept h.fr hg (.inr h.nG), h.row.set_ i true, h.t5.kept hg (by simpa using h.GT), h.lF, h.lG⟩
theorem RcMem.app {v3 : Value} {W3 : World} {y : Int} (h : RcMem w F G T n out left v W) (hfr : IntOwn W3 w.heap.size v3 (left ++ [y])) (hg : W.grownBy W3 v.ownBlock) :
    Boxed W3 F 22 v ∧ RcMem w F G T n out (left ++ [y]) v3 (W3.setCell ⟨F, 0, none⟩ v3) := by
  have hb3 : Boxed W3 F 22 v := h.box.kept hg (h.box.not_row (by decide) h.fr)
  have hg3 := grownBy_setCell' W3 F v3
  have hr3 := h.row.grown hg (fun e => h.nG e.symm)
  exact ⟨hb3, ⟨(h.below.grown hg h.below.size (fun k hk => (h.fr.lt k hk).1)).setCell (p := ⟨F, 0, none⟩) h.lF _, hb3.set v3, World.ownsRow.kept hfr hg3 (.inr (hb3.not_row (by decide) hfr).symm), hr3.set_far (by exact fun e => h.FG e.symm) _,
    (h.t5.kept hg (h.t5.not_row (by decide) h.fr)).kept hg3 (by simpa using h.FT.symm), h.lF, h.lG⟩⟩
theorem RcMem.sane (h : RcMem w F G T n out left v W) {Ms : List Nat} (hM : ∀ k ∈ Ms, w.heap.size ≤ k ∧ k < W.heap.size) : Sane w.heap.size Ms [F] W := sane_box h.box h.fr h.lF hM
theorem RcMem.sane1 (h : RcMem w F G T n out left v W) : Sane w.heap.size [G] [F] W := h.sane fun k hk => by rw [List.mem_singleton.1 hk]; exact ⟨h.lG, h.row.lt⟩
theorem RcMem.off {v' : Value} {out' : List Bool} {left' : List Int} {Ms : List Nat} (h : RcMem w F G T n out left v W) (h' : RcMem w F G T n out' left' v' W') (hM : ∀ k ∈ Ms, w.heap.size ≤ k ∧ k < W.heap.size) (hGm : G ∈ Ms)
    (hos : W'.os = W.os) (htape : W'.tape = W.tape) (hout : W'.output = W.output) (hsz : W.heap.size ≤ W'.heap.size)
    (hb : ∀ k, k < W.heap.size → k ≠ G → k ≠ F → v.ownBlock ≠ some k → W'.heap[k]? = W.heap[k]?) (hat : v'.ownBlock = v.ownBlock ∨ ∀ r, v'.ownBlock = some r → W.heap.size ≤ r) : Off w.heap.size Ms [F] W W' :=
  off_box h.box h'.box h'.fr h.lF hM hos htape hout hsz (fun k hk h1 h2 h3 => hb k hk (fun e => h1 (by rw [e]; exact hGm)) h2 h3) hat
def MarksO (lo : Nat) (Ms Fs : List Nat) (W : World) (ds : List Deferred) : Prop := ∃ Ds : List Nat, ds = Ds.map (fun D => { target := .collected D, args := #[] }) ∧ Ds.Nodup ∧ ∀ D ∈ Ds, lo ≤ D ∧ Good lo Ms Fs W D ∧ W.heap[D]? = some (.deferred (some []))
theorem MarksO.nil (lo : Nat) (Ms Fs : List Nat) (W : World) : MarksO lo Ms Fs W [] := ⟨[], rfl, .nil, fun D h => by cases h⟩
theorem MarksO.off {lo : Nat} {Ms Fs : List Nat} {W W' : World} {ds : List Deferred} (h : MarksO lo Ms Fs W ds) (ho : Off lo Ms Fs W W') : MarksO lo Ms Fs W' ds := by
  obtain ⟨Ds, h1, h2, h3⟩ := h
  exact ⟨Ds, h1, h2, fun D hD => by obtain ⟨a1, a2, a3⟩ := h3 D hD; exact ⟨a1, a2.off ho, (ho.block D a2.lt a2.not).trans a3⟩⟩
theorem MarksO.marks {lo : Nat} {Ms Fs : List Nat} {W : World} {ds : List Deferred} (h : MarksO lo Ms Fs W ds) : Marks lo W ds := by
  obtain ⟨Ds, h1, h2, h3⟩ := h
  exact ⟨Ds, h1, h2, fun D hD => ⟨(h3 D hD).1, (h3 D hD).2.2⟩⟩
theorem AuAt.off {lo : Nat} {Ms Fs : List Nat} {W W' : World} {V : Nat} {a : Au} {A B C : Option Addr} {ca cb cc : Nat} (h : AuAt W V a A B C ca cb cc) (hg : Good lo Ms Fs W V) (ho : Off lo Ms Fs W W') : AuAt W' V a A B C ca cb cc :=
  ⟨(hg.off ho).lt, (hg.cell ho).trans h.c0, (hg.cell ho).trans h.c1, (hg.cell ho).trans h.c2, (hg.cell ho).trans h.c3, (hg.cell ho).trans h.c4⟩
structure RcIn (a : Au) (A B C : Option Addr) (ca cb cc V : Nat) (w : World) (F G T N n : Nat) (op : Option Int) (ds : List Deferred) (out : List Bool) (left : List Int) (v : Value) (W : World) : Prop where
  mem : RcMem w F G T N out left v W
  met : RcM a out left n op
  marks : MarksO w.heap.size [G] [F] W ds
  au : AuAt W V a A B C ca cb cc
  gd : Good w.heap.size [G] [F] W V
theorem RcIn.on {a : Au} {A B C : Option Addr} {ca cb cc V : Nat} {w : World} {F G T N n : Nat} {op : Option Int} {ds : List Deferred} {out : List Bool} {left : List Int} {v : Value} {W W' : World} (h : RcIn a A B C ca cb cc V w F G T N n op ds out left v W) (hb : Below W.heap.size W W') : RcIn a A B C ca cb cc V w F G T N n op ds out left v W' := by
  have ho : Off w.heap.size [G] [F] W W' := Off.of_below (h.mem.sane fun k hk => by rw [List.mem_singleton.1 hk]; exact ⟨h.mem.lG, h.mem.row.lt⟩) hb
  exact ⟨h.mem.on hb, h.met, h.marks.off ho, h.au.off h.gd ho, h.gd.off ho⟩
structure RcR (a : Au) (w : World) (F G T N n : Nat) (x : Int) (w3 : World) (out : List Bool) (left : List Int) (v : Value) (pre : List Stp) (W : World) : Prop where
  mem : RcMem w F G T N out left v W
  met : RcM a out left n (some x)
  off : Off w.heap.size [G] [F] w3 W
  pre : ∀ s ∈ pre, kp out s.t = true
end
end Go.Proofs.YtoglgeaiiipchabGreatDoor

namespace Go.Proofs.YtoglgeaiiipchabGreatDoor
open Go Go.RowKit Go.Maps
end Go.Proofs.YtoglgeaiiipchabGreatDoor
namespace Go.Proofs.YtoglgeaiiipchabGreatDoor
open Go Go.RowKit Go.Maps
end Go.Proofs.YtoglgeaiiipchabGreatDoor

namespace Go.Proofs.YtoglgeaiiipchabGreatDoor
open Go Go.RowKit Go.Maps Go.Shelf
def itL (v : Int) : DataW Unit := .lit (.int .i64 v)
theorem itE_mk {v : Int} (h : (Lit.int .i64 v).wf = true) : plainElem (H := Unit) Tryz.prog 3 (.int .i64 v) = some (itL v, []) := plainElem_int Tryz.underlying3 h
theorem itE_some {v : Value} {z : DataW Unit × List MemPlace} (h : plainElem (H := Unit) Tryz.prog 3 v = some z) : ∃ s : Int, v = .int .i64 s ∧ z = (itL s, []) := by
  obtain ⟨s, h1, h2, _⟩ := plainElem_int_inv Tryz.underlying3 h
  exact ⟨s, h1, h2⟩
theorem itL_inj {a b : Int} (h : itL a = itL b) : a = b := by simpa [itL] using h
theorem itE_inv {v : Value} {s : Int} {ps : List MemPlace} (h : plainElem (H := Unit) Tryz.prog 3 v = some (itL s, ps)) : v = .int .i64 s := by
  obtain ⟨s', rfl, hz⟩ := itE_some h
  simp only [Prod.mk.injEq] at hz
  rw [itL_inj hz.1]
def itD (D : List (Int × Int)) : DataW Unit := D.foldl (fun m p => m.put (.int .i64 p.1) (itL p.2)) (.map [])
theorem itD_snoc (D : List (Int × Int)) (p : Int × Int) : itD (D ++ [p]) = (itD D).put (.int .i64 p.1) (itL p.2) := by unfold itD; rw [List.foldl_append]; rfl
theorem itD_not (z : DataW Unit) {k : Int} : ∀ (D : List (Int × Int)) (m : DataW Unit), k ∉ D.map Prod.fst → (D.foldl (fun m p => m.put (.int .i64 p.1) (itL p.2)) m).atKey (.int .i64 k) z = m.atKey (.int .i64 k) z
  | [], m, _ => rfl
  | p :: D, m, h => by
    rw [List.map_cons, List.mem_cons] at h
    rw [List.foldl_cons, itD_not z D _ (fun h' => h (.inr h')), atKey_put_other (fun e => h (.inl (by simpa using e)))]
theorem itD_in (z : DataW Unit) {k : Int} {s : Int} : ∀ (D : List (Int × Int)) (m : DataW Unit), IsMap m → (D.map Prod.fst).Nodup → (k, s) ∈ D → (D.foldl (fun m p => m.put (.int .i64 p.1) (itL p.2)) m).atKey (.int .i64 k) z = itL s
  | [], m, _, _, h => by cases h
  | p :: D, m, hm, hn, h => by
    rw [List.map_cons, List.nodup_cons] at hn
    rw [List.foldl_cons]
    rcases List.mem_cons.1 h with h1 | h1
    · subst h1
      rw [itD_not z D _ hn.1, atKey_put_same hm (show WideAt.IsKeyLit (.int .i64 k) from trivial)]
    · exact itD_in z D _ (hm.put _ _) hn.2 h1
def AtI (W : World) (M : Nat) (D : List (Int × Int)) : Prop := W.ownsMap Tryz.prog 3 (plainElem Tryz.prog 3) M D.length (itD D)
theorem AtI.made (w : World) : AtI (w.alloc (.map #[] 0)) w.heap.size [] := World.ownsMap_made _ _ _ _
theorem AtI.kept {W W' : World} {M : Nat} {D : List (Int × Int)} {row : Option Nat} (h : AtI W M D) (hg : W.grownBy W' row) (hr : some M ≠ row) : AtI W' M D := World.ownsMap.kept h hg hr
theorem AtI.on {W W' : World} {M : Nat} {D : List (Int × Int)} (h : AtI W M D) (hb : Below W.heap.size W W') : AtI W' M D :=
  h.kept (row := none) ⟨hb.os, hb.tape, hb.output, hb.size, fun k hk _ => hb.block k hk⟩ (by simp)
theorem AtI.lt {W : World} {M : Nat} {D : List (Int × Int)} (h : AtI W M D) : M < W.heap.size := World.ownsMap.lt h
theorem AtI.heap {W W' : World} {M : Nat} {D : List (Int × Int)} (h : AtI W M D) (he : W'.heap[M]? = W.heap[M]?) : AtI W' M D := by
  obtain ⟨es, c, h1, h2⟩ := h
  exact ⟨es, c, he.trans h1, h2⟩
theorem AtI.step {W : World} {M : Nat} {D : List (Int × Int)} {k v : Int} (h : W.ownsMap Tryz.prog 3 (plainElem Tryz.prog 3) M (D.length + 1) ((itD D).put (.int .i64 k) (itL v))) : AtI W M (D ++ [(k, v)]) := by
  unfold AtI
  rw [itD_snoc, List.length_append]
  exact h
theorem zeroIt (w : World) : (zeroValue 3).run Tryz.prog w = .ok (.int .i64 0) w := by kernel_rfl
theorem keyedIt : Keyed Tryz.prog 3 := int_keyed Tryz.underlying3
theorem keyIt {k : Int} (h : (Lit.int .i64 k).wf = true) : keyOf Tryz.prog 3 (.int .i64 k) = some (.int .i64 k) := keyOf_int_mk Tryz.underlying3 h
theorem AtI.hit {W : World} {M : Nat} {D : List (Int × Int)} (h : AtI W M D) (hn : (D.map Prod.fst).Nodup) {k s : Int} (hk : (Lit.int .i64 k).wf = true) (hs : (k, s) ∈ D) :
    (Instr.lookup 148 (.map (some M)) (.int .i64 k) true).run Tryz.prog W = .ok (.tuple #[.int .i64 s, .bool true]) W := by
  obtain ⟨v, ps, hrun, hv⟩ := World.ownsMap.look_ok h keyedIt Tryz.underlying148 (zeroIt W) (itE_mk (v := 0) (by decide)) (keyIt hk)
  rw [show (itD D).atKey (.int .i64 k) (itL 0) = itL s from itD_in _ D _ isMap_empty hn hs] at hv
  rw [hrun, itE_inv hv, has_true_of_atKey (D := itD D) (y := itL s) (fun z => itD_in z D _ isMap_empty hn hs)]
theorem AtI.miss {W : World} {M : Nat} {D : List (Int × Int)} (h : AtI W M D) {k : Int} (hk : (Lit.int .i64 k).wf = true) (hm : k ∉ D.map Prod.fst) :
    (Instr.lookup 148 (.map (some M)) (.int .i64 k) true).run Tryz.prog W = .ok (.tuple #[.int .i64 0, .bool false]) W := by
  obtain ⟨v, ps, hrun, hv⟩ := World.ownsMap.look_ok h keyedIt Tryz.underlying148 (zeroIt W) (itE_mk (v := 0) (by decide)) (keyIt hk)
  rw [show (itD D).atKey (.int .i64 k) (itL 0) = itL 0 from itD_not _ D _ hm] at hv
  rw [hrun, itE_inv hv, has_false_of_atKey (D := itD D) (fun z => itD_not z D _ hm)]
theorem AtI.put {W : World} {M : Nat} {D : List (Int × Int)} (h : AtI W M D) (hl : D.length ≤ 1000000) {k v : Int} (hk : (Lit.int .i64 k).wf = true) (hv : (Lit.int .i64 v).wf = true) :
    ∃ W', (Instr.mapUpdate 148 (.map (some M)) (.int .i64 k) (.int .i64 v)).run Tryz.prog W = .ok () W' ∧ AtI W' M (D ++ [(k, v)]) ∧ W.grownBy W' (some M) := by
  obtain ⟨W', h1, h2, h3⟩ := World.ownsMap.update h keyedIt Tryz.underlying148 (by unfold maxLen; omega) (keyIt hk) (itE_mk hv)
  exact ⟨W', h1, AtI.step h2, h3⟩
theorem itD_entry {D : List (Int × Int)} {k v : Int} (h : ∀ z : DataW Unit, (itD D).atKey (.int .i64 k) z = itL v) : (k, v) ∈ D ∨ ∃ v', (k, v') ∈ D ∧ ¬ (D.map Prod.fst).Nodup := by
  by_cases hm : k ∈ D.map Prod.fst
  · obtain ⟨⟨k', v'⟩, hp, rfl⟩ := List.mem_map.1 hm
    by_cases hn : (D.map Prod.fst).Nodup
    · have h1 := h (itL 0)
      rw [show (itD D).atKey (.int .i64 k') (itL 0) = itL v' from itD_in _ D _ isMap_empty hn hp] at h1
      rw [← itL_inj h1]
      exact .inl hp
    · exact .inr ⟨v', hp, hn⟩
  · have h1 := h (itL (v + 1))
    rw [show (itD D).atKey (.int .i64 k) (itL (v + 1)) = itL (v + 1) from itD_not _ D _ hm] at h1
    have := itL_inj h1
    omega
theorem itD_has {D : List (Int × Int)} (hn : (D.map Prod.fst).Nodup) {k v : Int} (h : (k, v) ∈ D) : Maps.has (itD D) (.int .i64 k) = true := has_true_of_atKey (D := itD D) (y := itL v) (fun z => itD_in z D _ isMap_empty hn h)
end Go.Proofs.YtoglgeaiiipchabGreatDoor

namespace Go.Proofs.YtoglgeaiiipchabGreatDoor
inductive Fm where
  | tt : Fm
  | pr : Int → Fm
  | no : Fm → Fm
  | nx : Fm → Fm
  | bi : Int → Fm → Fm → Fm
  deriving DecidableEq
def sgn (k : Int) : UInt8 := if k = 4 then 38 else if k = 5 then 124 else if k = 7 then 85 else 82
def Fm.show : Fm → List UInt8
  | .tt => [116, 114, 117, 101]
  | .pr n => [112, UInt8.ofNat (48 + n.toNat)]
  | .no a => 33 :: a.show
  | .nx a => 88 :: a.show
  | .bi k a b => 40 :: (a.show ++ [32, sgn k, 32] ++ b.show ++ [41])
def Fm.flat : Fm → List Nd → List Nd
  | .tt, o => o ++ [⟨1, 0, 0, 0⟩]
  | .pr n, o => o ++ [⟨2, 0, 0, n⟩]
  | .no a, o => a.flat o ++ [⟨3, ((a.flat o).length : Int) - 1, 0, 0⟩]
  | .nx a, o => a.flat o ++ [⟨6, ((a.flat o).length : Int) - 1, 0, 0⟩]
  | .bi k a b, o => b.flat (a.flat o) ++ [⟨k, ((a.flat o).length : Int) - 1, ((b.flat (a.flat o)).length : Int) - 1, 0⟩]
def Fm.size : Fm → Nat
  | .tt => 1
  | .pr _ => 1
  | .no a => a.size + 1
  | .nx a => a.size + 1
  | .bi _ a b => a.size + b.size + 1
theorem Fm.size_pos (t : Fm) : 0 < t.size := by cases t <;> simp [Fm.size]
theorem Fm.flat_len (t : Fm) : ∀ o, (t.flat o).length = o.length + t.size := by
  induction t with
  | tt => intro o; simp [Fm.flat, Fm.size]
  | pr n => intro o; simp [Fm.flat, Fm.size]
  | no a ih => intro o; simp [Fm.flat, Fm.size, ih]; omega
  | nx a ih => intro o; simp [Fm.flat, Fm.size, ih]; omega
  | bi k a b iha ihb => intro o; simp [Fm.flat, Fm.size, iha, ihb]; omega
theorem Fm.flat_pre (t : Fm) : ∀ o, ∃ r, t.flat o = o ++ r := by
  induction t with
  | tt => intro o; exact ⟨_, rfl⟩
  | pr n => intro o; exact ⟨_, rfl⟩
  | no a ih => intro o; obtain ⟨r, h⟩ := ih o; exact ⟨r ++ [⟨3, ((a.flat o).length : Int) - 1, 0, 0⟩], by rw [Fm.flat]; rw [← List.append_assoc, ← h]⟩
  | nx a ih => intro o; obtain ⟨r, h⟩ := ih o; exact ⟨r ++ [⟨6, ((a.flat o).length : Int) - 1, 0, 0⟩], by rw [Fm.flat]; rw [← List.append_assoc, ← h]⟩
  | bi k a b iha ihb =>
    intro o
    obtain ⟨r, h⟩ := iha o
    obtain ⟨r', h'⟩ := ihb (a.flat o)
    exact ⟨r ++ r' ++ [⟨k, ((a.flat o).length : Int) - 1, ((b.flat (a.flat o)).length : Int) - 1, 0⟩], by rw [Fm.flat, h', h]; simp⟩
def treeN (ts : List Fm) (x : Nd) : Fm :=
  if x.k = 1 then .tt
  else if x.k = 2 then .pr x.n
  else if x.k = 3 then .no (ts.getD x.a.toNat .tt)
  else if x.k = 6 then .nx (ts.getD x.a.toNat .tt)
  else .bi x.k (ts.getD x.a.toNat .tt) (ts.getD x.b.toNat .tt)
def nond : Nd := ⟨0, 0, 0, 0⟩
def treesOf (f : List Nd) : Nat → List Fm
  | 0 => []
  | k + 1 => treesOf f k ++ [treeN (treesOf f k) (f.getD k nond)]
def treeAt (f : List Nd) (i : Nat) : Fm := treeN (treesOf f i) (f.getD i nond)
theorem treesOf_len (f : List Nd) (k : Nat) : (treesOf f k).length = k := by
  induction k with
  | zero => rfl
  | succ k ih => simp [treesOf, ih]
theorem treesOf_get (f : List Nd) : ∀ (k i : Nat), i < k → (treesOf f k).getD i .tt = treeAt f i
  | 0, i, h => absurd h (by omega)
  | k + 1, i, h => by
    unfold treesOf
    rw [List.getD_eq_getElem?_getD]
    rcases Nat.lt_or_ge i k with h1 | h1
    · rw [List.getElem?_append_left (by rw [treesOf_len]; exact h1), ← List.getD_eq_getElem?_getD]
      exact treesOf_get f k i h1
    · obtain rfl : i = k := by omega
      rw [List.getElem?_append_right (by rw [treesOf_len]; exact Nat.le_refl _), treesOf_len]
      simp [treeAt]
theorem treeAt_take {f g : List Nd} : ∀ (i : Nat), (∀ j, j ≤ i → f.getD j nond = g.getD j nond) → treeAt f i = treeAt g i := by
  have key : ∀ (k : Nat), (∀ j, j < k → f.getD j nond = g.getD j nond) → treesOf f k = treesOf g k := by
    intro k
    induction k with
    | zero => intro _; rfl
    | succ k ih =>
      intro h
      unfold treesOf
      rw [ih (fun j hj => h j (by omega)), h k (by omega)]
  intro i h
  unfold treeAt
  rw [key i (fun j hj => h j (by omega)), h i (Nat.le_refl _)]
def Fm.ok : Fm → Prop
  | .tt => True
  | .pr n => 0 ≤ n ∧ n ≤ 9
  | .no a => a.ok
  | .nx a => a.ok
  | .bi k a b => (k = 4 ∨ k = 5 ∨ k = 7 ∨ k = 8) ∧ a.ok ∧ b.ok
theorem getD_pre {xs ys : List Nd} {i : Nat} {d : Nd} (h : i < xs.length) : (xs ++ ys).getD i d = xs.getD i d := by
  rw [List.getD_eq_getElem?_getD, List.getElem?_append_left h, ← List.getD_eq_getElem?_getD]
theorem getD_last {xs : List Nd} {x d : Nd} : (xs ++ [x]).getD xs.length d = x := by
  rw [List.getD_eq_getElem?_getD, List.getElem?_append_right (Nat.le_refl _)]
  simp
theorem treeAt_flat (t : Fm) (ht : t.ok) : ∀ o, treeAt (t.flat o) (o.length + t.size - 1) = t := by
  induction t with
  | tt =>
    intro o
    have e : o.length + Fm.tt.size - 1 = o.length := by simp [Fm.size]
    rw [e]
    have hg : (Fm.flat .tt o).getD o.length nond = ⟨1, 0, 0, 0⟩ := getD_last
    unfold treeAt
    rw [hg]
    simp [treeN]
  | pr n =>
    intro o
    have e : o.length + (Fm.pr n).size - 1 = o.length := by simp [Fm.size]
    rw [e]
    have hg : (Fm.flat (.pr n) o).getD o.length nond = ⟨2, 0, 0, n⟩ := getD_last
    unfold treeAt
    rw [hg]
    simp [treeN]
  | no a ih =>
    intro o
    have hl := a.flat_len o
    have hp := a.size_pos
    have e : o.length + (Fm.no a).size - 1 = (a.flat o).length := by simp [Fm.size]; omega
    rw [e]
    have h1 : treeAt (Fm.flat (.no a) o) (o.length + a.size - 1) = a := by
      rw [treeAt_take (g := a.flat o) _ (fun j hj => by rw [Fm.flat, getD_pre (by omega)])]
      exact ih ht o
    have hg : (Fm.flat (.no a) o).getD (a.flat o).length nond = ⟨3, ((a.flat o).length : Int) - 1, 0, 0⟩ := getD_last
    unfold treeAt
    rw [hg]
    simp only [treeN, show ¬ (3 : Int) = 1 by decide, show ¬ (3 : Int) = 2 by decide, if_false, if_true]
    rw [show (((a.flat o).length : Int) - 1).toNat = o.length + a.size - 1 by omega, treesOf_get _ _ _ (by omega), h1]
  | nx a ih =>
    intro o
    have hl := a.flat_len o
    have hp := a.size_pos
    have e : o.length + (Fm.nx a).size - 1 = (a.flat o).length := by simp [Fm.size]; omega
    rw [e]
    have h1 : treeAt (Fm.flat (.nx a) o) (o.length + a.size - 1) = a := by
      rw [treeAt_take (g := a.flat o) _ (fun j hj => by rw [Fm.flat, getD_pre (by omega)])]
      exact ih ht o
    have hg : (Fm.flat (.nx a) o).getD (a.flat o).length nond = ⟨6, ((a.flat o).length : Int) - 1, 0, 0⟩ := getD_last
    unfold treeAt
    rw [hg]
    simp only [treeN, show ¬ (6 : Int) = 1 by decide, show ¬ (6 : Int) = 2 by decide, show ¬ (6 : Int) = 3 by decide, if_false, if_true]
    rw [show (((a.flat o).length : Int) - 1).toNat = o.length + a.size - 1 by omega, treesOf_get _ _ _ (by omega), h1]
  | bi k a b iha ihb =>
    intro o
    have hla := a.flat_len o
    have hlb := b.flat_len (a.flat o)
    have hpa := a.size_pos
    have hpb := b.size_pos
    obtain ⟨hk, hta, htb⟩ := ht
    have e : o.length + (Fm.bi k a b).size - 1 = (b.flat (a.flat o)).length := by simp [Fm.size]; omega
    rw [e]
    have h1 : treeAt (Fm.flat (.bi k a b) o) (o.length + a.size - 1) = a := by
      obtain ⟨r, hr⟩ := b.flat_pre (a.flat o)
      rw [treeAt_take (g := a.flat o) _ (fun j hj => by rw [Fm.flat, getD_pre (by omega), hr, getD_pre (by omega)])]
      exact iha hta o
    have h2 : treeAt (Fm.flat (.bi k a b) o) ((a.flat o).length + b.size - 1) = b := by
      rw [treeAt_take (g := b.flat (a.flat o)) _ (fun j hj => by rw [Fm.flat, getD_pre (by omega)])]
      exact ihb htb _
    have hg : (Fm.flat (.bi k a b) o).getD (b.flat (a.flat o)).length nond = ⟨k, ((a.flat o).length : Int) - 1, ((b.flat (a.flat o)).length : Int) - 1, 0⟩ := getD_last
    unfold treeAt
    rw [hg]
    simp only [treeN, show ¬ k = 1 by omega, show ¬ k = 2 by omega, show ¬ k = 3 by omega, show ¬ k = 6 by omega, if_false]
    rw [show (((a.flat o).length : Int) - 1).toNat = o.length + a.size - 1 by omega, treesOf_get _ _ _ (by omega), h1,
      show (((b.flat (a.flat o)).length : Int) - 1).toNat = (a.flat o).length + b.size - 1 by omega, treesOf_get _ _ _ (by omega), h2]
def chr (s : List UInt8) (i : Nat) : UInt8 := s.getD i 0
def needs (s : List UInt8) : List UInt8 → Nat → Except Nat Nat
  | [], i => .ok i
  | c :: r, i => if i < s.length ∧ chr s i = c then needs s r (i + 1) else .error i
def kndAt (c : UInt8) : Int := if c = 38 then 4 else if c = 124 then 5 else if c = 85 then 7 else if c = 82 then 8 else 0
def prs (s : List UInt8) : Nat → Nat → Except Nat (Fm × Nat)
  | 0, i => .error i
  | m + 1, i =>
    if s.length ≤ i then .error s.length
    else if chr s i = 116 then (match needs s [116, 114, 117, 101] i with | .error e => .error e | .ok j => .ok (.tt, j))
    else if chr s i = 112 then (if i + 1 < s.length ∧ 48 ≤ chr s (i + 1) ∧ chr s (i + 1) ≤ 57 then .ok (.pr ((chr s (i + 1)).toNat - 48), i + 2) else .error (i + 1))
    else if chr s i = 33 then (match prs s m (i + 1) with | .error e => .error e | .ok (a, j) => .ok (.no a, j))
    else if chr s i = 88 then (match prs s m (i + 1) with | .error e => .error e | .ok (a, j) => .ok (.nx a, j))
    else if chr s i = 40 then
      (match prs s m (i + 1) with
      | .error e => .error e
      | .ok (a, j) =>
        match needs s [32] j with
        | .error e => .error e
        | .ok j =>
          if j < s.length ∧ kndAt (chr s j) ≠ 0 then
            (match needs s [32] (j + 1) with
            | .error e => .error e
            | .ok j2 =>
              match prs s m j2 with
              | .error e => .error e
              | .ok (b, j3) =>
                match needs s [41] j3 with
                | .error e => .error e
                | .ok j4 => .ok (.bi (kndAt (chr s j)) a b, j4))
          else .error j)
    else .error i
end Go.Proofs.YtoglgeaiiipchabGreatDoor
