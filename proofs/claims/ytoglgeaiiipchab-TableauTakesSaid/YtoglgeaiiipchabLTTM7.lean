/- Spots as keys: what a key of such a map is. -/
import Derived.Test.YtoglgeaiiipchabLTTM2
import Derived.Test.YtoglgeaiiipchabLTTM3
import Derived.WalkSpells
import Derived.Test.YtoglgeaiiipchabLTTM6
import Derived.Maps.OwnIn
import Derived.Maps.Ext
import Derived.DeepKeys4
import Derived.Test.YtoglgeaiiipchabLTTM1
import Derived.Test.YtoglgeaiiipchabProg
import Derived.ChangeKeysEq
set_option linter.unusedSimpArgs false
set_option linter.unusedVariables false
namespace Go.Proofs.Ytoglgeaiiipchab
open Go Go.RowKit Go.Shelf

/-- a row of ints of the call's own -/
def IntOwn (W : World) (lo : Nat) (v : Value) (xs : List Int) : Prop := W.ownsRow lo 3 1 v xs.length (xs.flatMap fun n : Int => [Value.int .i64 n])
theorem IntOwn.pop {W : World} {lo n c : Nat} {A : Option Addr} {xs : List Int} {y : Int} (h : IntOwn W lo (.slice A n c) (xs ++ [y])) : IntOwn W lo (.slice A xs.length c) xs := by
  obtain ⟨h1, h2⟩ := h
  refine ⟨flatMap_len (sz := 1) (fun _ => rfl) xs, ?_⟩
  rcases h2 with ⟨_, h2⟩ | ⟨g, cap, cur, hv, hg, hh, hn, hc, hs, ht⟩
  · simp at h2
  · simp at hv
    obtain ⟨rfl, rfl, rfl⟩ := hv
    rw [List.length_append] at hn ht
    refine .inr ⟨g, c, cur, rfl, hg, hh, by simp at hn; omega, hc, hs, ?_⟩
    have hfl := flatMap_len (enc := fun n : Int => [Value.int .i64 n]) (sz := 1) (fun _ => rfl) xs
    have h3 := congrArg (List.take (xs.length * 1)) ht
    rw [List.take_take, Nat.min_eq_left (by simp), List.flatMap_append, ← hfl, List.take_left] at h3
    rw [← hfl]
    exact h3
theorem run_append_int {W : World} {lo : Nat} {v : Value} {xs : List Int} {y : Int} {B : Nat} (ty : TypeId) (hown : IntOwn W lo v xs) (hB : W.heap[B]? = some (.cells #[.int .i64 y] 3 (0, 0))) (hl : xs.length ≤ 10000000) (hlo : lo ≤ W.heap.size) :
    ∃ v' W', (Builtin.append_ #[22, 22] ty #[v, .slice (some ⟨B, 0, none⟩) 1 1]).run Try.prog W = .ok v' W' ∧ IntOwn W' lo v' (xs ++ [y]) ∧ W.grownBy W' v.ownBlock ∧ (v'.ownBlock = v.ownBlock ∨ v'.ownBlock = some W.heap.size) := by
  obtain ⟨i0, hi0, hz0, hz1, hz2⟩ := info_parts infoInt
  have hnews : ∀ j u, [Value.int .i64 y][j]? = some u → W.cell? ((⟨B, 0, none⟩ : Addr).add j) = some u := fun j u hu => by
    rw [Addr_add_off]
    simp only [World.cell?, hB, Nat.zero_add]
    match j, hu with
    | 0, hu => simpa using hu
  obtain ⟨v', W', hrun, ho, hg, _, hat⟩ := run_append_own_at (P := Try.prog) W lo 22 ty 3 i0 _ 1 8 Try.underlying22 hi0 hz0 hz1 hz2 rfl (by decide) v xs.length _ hown ⟨B, 0, none⟩ 1 1 [.int .i64 y] rfl hnews (by simp [Value.oneCell']) (by unfold maxLen; omega) (by omega) hlo
  refine ⟨v', W', hrun, ?_, hg, hat⟩
  unfold IntOwn
  rw [List.length_append, List.flatMap_append]
  simpa using ho
/-- the append at the operation, within a fence -/
theorem wpListIn_app_int {W : World} {lo : Nat} {v : Value} {xs : List Int} {Fn : Fence} {n : Nat} {ops : Array Oper} {rest : List Oper} {o : Oper} {a : Act} {Q : Exit → Act → World → Prop} (hgd : o.guard = none) (s x : Operand)
    (ho : o.op = .call { callee := .builtin .append, args := #[s, x], argTypes := #[22, 22] }) {y : Int} {B : Nat} (hs : a.eval s = v) (hx : a.eval x = .slice (some ⟨B, 0, none⟩) 1 1)
    (hown : IntOwn W lo v xs) (hB : W.heap[B]? = some (.cells #[.int .i64 y] 3 (0, 0))) (hl : xs.length ≤ 10000000) (hlo : lo ≤ W.heap.size)
    (h : ∀ v' W', IntOwn W' lo v' (xs ++ [y]) → W.grownBy W' v.ownBlock → (v'.ownBlock = v.ownBlock ∨ v'.ownBlock = some W.heap.size) → wpListIn Fn n Try.prog ops Q rest (a.put o.dst v') W') :
    wpListIn Fn n Try.prog ops Q (o :: rest) a W := by
  refine wpListIn_plain hgd fun K' hK' => ?_
  obtain ⟨v', W', hrun, h1, h2, h3⟩ := run_append_int o.type hown hB hl hlo
  unfold Oper.wpIn
  refine ⟨by simp [Oper.about, ho, resolve, Target.leads, Sem.run_pure], ?_⟩
  rw [Oper.semAt_plain Fn _ _ (by rw [ho]; intro c hc'; cases hc')]
  simp [execOp, ho, resolve, invoke, builtin, hs, hx, hrun, Result.andThen]
  exact hK' _ _ (h v' W' h1 h2 h3)

def ClonePost (w : World) (xs : List Int) (e : Ending) (w' : World) : Prop := ∃ v, e = .returned v ∧ IntOwn w' w.heap.size v xs ∧ Below w.heap.size w w'
set_option maxRecDepth 100000 in
theorem CloneO_ (A : Option Addr) (c : Nat) (xs : List Int) (w : World) (hx : Ints w 0 A c xs) :
    Calls Try.prog 51 #[.slice A xs.length c] w (ClonePost w xs) := by
  obtain ⟨i0, hi0, hz0, hz1, hz2⟩ := info_parts infoInt
  have hmax := hx.max
  have q24 : ∀ (w : World) (a : Option Addr) (n c n' c' : Nat), (binOp .eql 22 (.slice a n c) (.slice none n' c')).run Try.prog w = .ok (.bool a.isNone) w := fun w a n c n' c' => Lib.run_eql_slice_nil w _ _ a n c n' c' Try.underlying22
  cases A with
  | none =>
    have hxs : xs = [] := by
      cases xs with
      | nil => rfl
      | cons x r =>
        obtain ⟨b, off, h, _⟩ := hx.rd (by simp)
        cases h
    subst hxs
    have HP : Hid (ClonePost w [] (.returned (.slice none 0 0)) w) := ⟨_, rfl, World.ownsRow_nil _ _ _ _, Below.refl _ _⟩
    go_enter Try.func51, Try.ntmps51
    go_wp2_with fail
    go_ret
    exact HP.out
  | some a =>
    have HX := Lib.hid (hx.rd.below (w' := w.alloc (Obj.cells #[] 3)) ((Below.refl _ _).alloc (Nat.le_refl _) _) (Nat.le_refl _))
    have HO := Lib.hid (own_empty (w := w) (base := w.heap.size) 3 1 (Nat.le_refl _))
    have m2 : (0 + xs.length) * 8 ≤ 140737488355328 := by omega
    have m3 : 0 + xs.length ≤ maxLen := by simp only [maxLen]; omega
    have m4 : w.heap.size ≤ (w.alloc (Obj.cells #[] 3)).heap.size := by simp
    have HM := Lib.hid hmax
    clear hx hmax
    go_enter Try.func51, Try.ntmps51
    go_wp2_with (at_builtin; refine wpList_app _ rfl (.tmp 5) (.tmp 6) _ rfl w.heap.size 3 i0 _ 1 8 Try.underlying22 hi0 hz0 hz1 hz2 rfl (by decide) (.slice (some ⟨w.heap.size, 0, none⟩) 0 0) 0 [] rfl HO.out (some a) xs.length c _ rfl (flatMap_len (sz := 1) (fun _ => rfl) _) HX.out (ints_oneCell _) m3 m2 m4 ?_; intro v2 w2 hown2 hg2 hat2)
    have HP : Hid (ClonePost w xs (.returned v2) w2) := by
      refine ⟨v2, rfl, ?_, grownOwn_ ((Below.refl _ _).alloc (Nat.le_refl _) _) hg2 HO.out (Nat.le_refl _) (by simp)⟩
      unfold IntOwn
      simpa using hown2
    clear hown2 hg2 hat2
    go_wp2_with fail
    go_ret
    exact HP.out

/-- between two rounds; w: the world of the call; F: what is left; G: the marks; T: their variable -/
structure RcMem (w : World) (F G T n : Nat) (out : List Bool) (left : List Int) (v : Value) (W : World) : Prop where
  below : Below w.heap.size w W
  box : Boxed W F 22 v
  fr : IntOwn W w.heap.size v left
  row : BRow W G out
  t5 : Boxed W T 23 (.slice (some ⟨G, 0, none⟩) n n)
  lF : w.heap.size ≤ F
  lG : w.heap.size ≤ G
section
variable {F G T n : Nat} {w W W' : World} {v : Value} {out : List Bool} {left : List Int}
theorem RcMem.FG (h : RcMem w F G T n out left v W) : F ≠ G := by
  rintro rfl
  have h1 : W.heap[F]? = _ := h.box
  have h2 : W.heap[F]? = _ := h.row
  rw [h1] at h2
  simp at h2
theorem RcMem.FT (h : RcMem w F G T n out left v W) : F ≠ T := by
  rintro rfl
  have h1 : W.heap[F]? = _ := h.box
  have h2 : W.heap[F]? = _ := h.t5
  rw [h1] at h2
  simp at h2
theorem RcMem.GT (h : RcMem w F G T n out left v W) : T ≠ G := by
  rintro rfl
  have h1 : W.heap[T]? = _ := h.t5
  have h2 : W.heap[T]? = _ := h.row
  rw [h1] at h2
  simp at h2
theorem RcMem.nG (h : RcMem w F G T n out left v W) : v.ownBlock ≠ some G := fun e => by
  obtain ⟨g, hg⟩ : ∃ g, v.ownBlock = some g := ⟨_, e⟩
  rcases h.fr.2 with ⟨rfl, _⟩ | ⟨g', cap, cur, rfl, _, hh, _⟩
  · cases e
  · obtain rfl : g' = G := by simpa [Value.ownBlock] using e
    have h2 : W.heap[g']? = _ := h.row
    rw [hh] at h2
    simp at h2
theorem RcMem.on (h : RcMem w F G T n out left v W) (hb : Below W.heap.size W W') : RcMem w F G T n out left v W' := by
  have hg : W.grownBy W' none := ⟨hb.os, hb.tape, hb.output, hb.size, fun k hk _ => hb.block k hk⟩
  exact ⟨Below_on h.below hb h.below.size, h.box.kept hg (by simp), own_below h.fr hb, h.row.below hb h.row.lt, h.t5.kept hg (by simp), h.lF, h.lG⟩
theorem RcMem.own {m : Nat} (hm : w.heap.size ≤ m) {row : Option Nat} (h : RcMem w F G T n out left v W) (hg : W.grownBy W' row) (hr : ∀ r, row = some r → m ≤ r ∧ ∃ o : Obj, W.heap[r]? = some o ∧ o.isCells = false) : RcMem w F G T n out left v W' := by
  have cl : ∀ {k : Nat} {o : Obj}, W.heap[k]? = some o → o.isCells = true → some k ≠ row := fun hk ho e => by
    obtain ⟨_, o', h1, h2⟩ := hr _ e.symm
    rw [hk] at h1
    rw [← Option.some.inj h1, ho] at h2
    cases h2
  refine ⟨h.below.grown hg h.below.size (fun k hk => by have := (hr k hk).1; omega), h.box.kept hg (cl h.box rfl), World.ownsRow.kept h.fr hg ?_, h.row.grown hg (cl h.row rfl), h.t5.kept hg (cl h.t5 rfl), h.lF, h.lG⟩
  cases hv : v.ownBlock with
  | none => exact .inl rfl
  | some r =>
    obtain ⟨ob, h1, h2⟩ := own_cells h.fr hv
    exact .inr (cl h1 h2)
theorem RcMem.set {u : Value} {left' : List Int} (h : RcMem w F G T n out left v W) (hu : IntOwn W w.heap.size u left') : RcMem w F G T n out left' u (W.setCell ⟨F, 0, none⟩ u) := by
  have hg := grownBy_setCell' W F u
  exact ⟨h.below.setCell (p := ⟨F, 0, none⟩) h.lF _, h.box.set u, World.ownsRow.kept hu hg (.inr (h.box.not_row (by decide) hu).symm), h.row.set_far (by exact fun e => h.FG e.symm) _, h.t5.kept hg (by simpa using h.FT.symm), h.lF, h.lG⟩
theorem RcMem.mark (h : RcMem w F G T n out left v W) (i : Nat) : RcMem w F G T n (out.set i true) left v (W.setCell ⟨G, i, none⟩ (.bool true)) := by
  have hg : W.grownBy (W.setCell ⟨G, i, none⟩ (.bool true)) (some G) := ⟨rfl, rfl, rfl, by simp [World.setCell], fun k _ hk => Below.heap_setCell _ _ _ _ (fun e => hk (by rw [show k = G from e]))⟩
  exact ⟨h.below.setCell (p := ⟨G, i, none⟩) h.lG _, h.box.kept hg (by simpa using h.FG), World.ownsRow.kept h.fr hg (.inr h.nG), h.row.set_ i true, h.t5.kept hg (by simpa using h.GT), h.lF, h.lG⟩
theorem RcMem.app {v3 : Value} {W3 : World} {y : Int} (h : RcMem w F G T n out left v W) (hfr : IntOwn W3 w.heap.size v3 (left ++ [y])) (hg : W.grownBy W3 v.ownBlock) :
    Boxed W3 F 22 v ∧ RcMem w F G T n out (left ++ [y]) v3 (W3.setCell ⟨F, 0, none⟩ v3) := by
  have hb3 : Boxed W3 F 22 v := h.box.kept hg (h.box.not_row (by decide) h.fr)
  have hg3 := grownBy_setCell' W3 F v3
  have hr3 := h.row.grown hg (fun e => h.nG e.symm)
  exact ⟨hb3, ⟨(h.below.grown hg h.below.size (fun k hk => (h.fr.lt k hk).1)).setCell (p := ⟨F, 0, none⟩) h.lF _, hb3.set v3, World.ownsRow.kept hfr hg3 (.inr (hb3.not_row (by decide) hfr).symm), hr3.set_far (by exact fun e => h.FG e.symm) _,
    (h.t5.kept hg (h.t5.not_row (by decide) h.fr)).kept hg3 (by simpa using h.FT.symm), h.lF, h.lG⟩⟩
theorem RcMem.sane (h : RcMem w F G T n out left v W) {Ms : List Nat} (hM : ∀ k ∈ Ms, w.heap.size ≤ k ∧ k < W.heap.size) : Sane w.heap.size Ms [F] W := sane_box h.box h.fr h.lF hM
theorem RcMem.sane1 (h : RcMem w F G T n out left v W) : Sane w.heap.size [G] [F] W := h.sane fun k hk => by rw [List.mem_singleton.1 hk]; exact ⟨h.lG, h.row.lt⟩
/-- a step from one such memory to another is one that rounds may do -/
theorem RcMem.off {v' : Value} {out' : List Bool} {left' : List Int} {Ms : List Nat} (h : RcMem w F G T n out left v W) (h' : RcMem w F G T n out' left' v' W') (hM : ∀ k ∈ Ms, w.heap.size ≤ k ∧ k < W.heap.size) (hGm : G ∈ Ms)
    (hos : W'.os = W.os) (htape : W'.tape = W.tape) (hout : W'.output = W.output) (hsz : W.heap.size ≤ W'.heap.size)
    (hb : ∀ k, k < W.heap.size → k ≠ G → k ≠ F → v.ownBlock ≠ some k → W'.heap[k]? = W.heap[k]?) (hat : v'.ownBlock = v.ownBlock ∨ ∀ r, v'.ownBlock = some r → W.heap.size ≤ r) : Off w.heap.size Ms [F] W W' :=
  off_box h.box h'.box h'.fr h.lF hM hos htape hout hsz (fun k hk h1 h2 h3 => hb k hk (fun e => h1 (by rw [e]; exact hGm)) h2 h3) hat
/-- the marks of loops that have ended, among what no round turns -/
def MarksO (lo : Nat) (Ms Fs : List Nat) (W : World) (ds : List Deferred) : Prop := ∃ Ds : List Nat, ds = Ds.map (fun D => { target := .collected D, args := #[] }) ∧ Ds.Nodup ∧ ∀ D ∈ Ds, lo ≤ D ∧ Good lo Ms Fs W D ∧ W.heap[D]? = some (.deferred (some []))
theorem MarksO.nil (lo : Nat) (Ms Fs : List Nat) (W : World) : MarksO lo Ms Fs W [] := ⟨[], rfl, .nil, fun D h => by cases h⟩
theorem MarksO.off {lo : Nat} {Ms Fs : List Nat} {W W' : World} {ds : List Deferred} (h : MarksO lo Ms Fs W ds) (ho : Off lo Ms Fs W W') : MarksO lo Ms Fs W' ds := by
  obtain ⟨Ds, h1, h2, h3⟩ := h
  exact ⟨Ds, h1, h2, fun D hD => by obtain ⟨a1, a2, a3⟩ := h3 D hD; exact ⟨a1, a2.off ho, (ho.block D a2.lt a2.not).trans a3⟩⟩
theorem MarksO.marks {lo : Nat} {Ms Fs : List Nat} {W : World} {ds : List Deferred} (h : MarksO lo Ms Fs W ds) : Marks lo W ds := by
  obtain ⟨Ds, h1, h2, h3⟩ := h
  exact ⟨Ds, h1, h2, fun D hD => ⟨(h3 D hD).1, (h3 D hD).2.2⟩⟩
theorem AuAt.off {lo : Nat} {Ms Fs : List Nat} {W W' : World} {V : Nat} {a : Au} {A B C : Option Addr} {ca cb cc : Nat} (h : AuAt W V a A B C ca cb cc) (hg : Good lo Ms Fs W V) (ho : Off lo Ms Fs W W') : AuAt W' V a A B C ca cb cc :=
  ⟨(hg.off ho).lt, (hg.cell ho).trans h.c0, (hg.cell ho).trans h.c1, (hg.cell ho).trans h.c2, (hg.cell ho).trans h.c3, (hg.cell ho).trans h.c4⟩
/-- what stands at the head of a round -/
structure RcIn (a : Au) (A B C : Option Addr) (ca cb cc V : Nat) (w : World) (F G T N n : Nat) (op : Option Int) (ds : List Deferred) (out : List Bool) (left : List Int) (v : Value) (W : World) : Prop where
  mem : RcMem w F G T N out left v W
  met : RcM a out left n op
  marks : MarksO w.heap.size [G] [F] W ds
  au : AuAt W V a A B C ca cb cc
  gd : Good w.heap.size [G] [F] W V
theorem RcIn.on {a : Au} {A B C : Option Addr} {ca cb cc V : Nat} {w : World} {F G T N n : Nat} {op : Option Int} {ds : List Deferred} {out : List Bool} {left : List Int} {v : Value} {W W' : World} (h : RcIn a A B C ca cb cc V w F G T N n op ds out left v W) (hb : Below W.heap.size W W') : RcIn a A B C ca cb cc V w F G T N n op ds out left v W' := by
  have ho : Off w.heap.size [G] [F] W W' := Off.of_below (h.mem.sane fun k hk => by rw [List.mem_singleton.1 hk]; exact ⟨h.mem.lG, h.mem.row.lt⟩) hb
  exact ⟨h.mem.on hb, h.met, h.marks.off ho, h.au.off h.gd ho, h.gd.off ho⟩
/-- what stands between two rounds over the steps from x, that began in w3 -/
structure RcR (a : Au) (w : World) (F G T N n : Nat) (x : Int) (w3 : World) (out : List Bool) (left : List Int) (v : Value) (pre : List Stp) (W : World) : Prop where
  mem : RcMem w F G T N out left v W
  met : RcM a out left n (some x)
  off : Off w.heap.size [G] [F] w3 W
  pre : ∀ s ∈ pre, kp out s.t = true
end
end Go.Proofs.Ytoglgeaiiipchab

namespace Go.Proofs.Ytoglgeaiiipchab
open Go Go.RowKit Go.Maps

def spC (y : Int × Nat) : List Value := [.int .i64 y.1, .int .i64 y.2]
def spKey (y : Int × Nat) : Lit := .string (keyBytes [.int .i64 y.1, .int .i64 y.2])
/-- a spot whose numbers are of Go's ints -/
def SpW (y : Int × Nat) : Prop := (Lit.int .i64 y.1).wf = true ∧ (Lit.int .i64 (y.2 : Int)).wf = true
theorem spLaid : laidOutB Try.prog = true := by kernel_rfl
theorem spWide : (match Try.prog.underlying 67 with | some (.array _ _) | some (.struct _) => true | _ => false) = true := by kernel_rfl
theorem spRow : (67 : TypeId) < Try.prog.types.size := of_decide_eq_true (by kernel_rfl)
set_option maxRecDepth 100000 in
theorem spLaw : Keyed Try.prog 67 := Keyed.of_law (deep_law_laid spLaid (m := 2) (by decide) spRow (by kernel_rfl) spWide)
theorem ex_succ {n m : Nat} (h : m < n) : ∃ k, n = k + 1 := ⟨n - 1, by omega⟩
theorem spKeyOf {y : Int × Nat} (h : SpW y) : keyOf Try.prog 67 (.agg #[.int .i64 y.1, .int .i64 y.2]) = some (spKey y) := by
  obtain ⟨k, hk⟩ : ∃ k, Try.prog.types.size = k + 1 := ex_succ spRow
  have h1 : ∀ (a : Int), (Lit.int .i64 a).wf = true → Try.prog.keyLits (k + 1) 3 [.int .i64 a] = some [.int .i64 a] := fun a ha => by
    simp [Program.keyLits, Try.underlying3, ha]
  have hc : Try.prog.cellsOf 67 = 2 := by kernel_rfl
  have hc1 : Try.prog.cellsOf 3 = 1 := by kernel_rfl
  have ht : Try.prog.keyType 67 = true := by kernel_rfl
  have hf : (Value.agg #[.int .i64 y.1, .int .i64 (y.2 : Int)]).formed Try.prog 67 = true := by simp [Value.formed, Try.underlying67, hc]
  have hl : Try.prog.keyLits (Try.prog.types.size + 1) 67 [.int .i64 y.1, .int .i64 (y.2 : Int)] = some [.int .i64 y.1, .int .i64 (y.2 : Int)] := by
    rw [hk]
    unfold Program.keyLits
    simp only [Try.underlying67, hc]
    simp [hc1, h1 _ h.1, h1 _ h.2]
  unfold keyOf
  simp only [Try.underlying67, ht, hf, Bool.and_self, if_true]
  show (Option.map _ (Try.prog.keyLits (Try.prog.types.size + 1) 67 [.int .i64 y.1, .int .i64 (y.2 : Int)])) = _
  rw [hl]
  rfl
theorem spKey_inj {y z : Int × Nat} (hy : SpW y) (hz : SpW z) (h : spKey y = spKey z) : y = z := by
  unfold spKey at h
  have h := keyBytes_inj (l := [.int .i64 y.1, .int .i64 y.2]) (l' := [.int .i64 z.1, .int .i64 z.2]) ⟨rfl, rfl, trivial⟩ (fun a ha => by rcases List.mem_cons.1 ha with rfl | ha; exact hy.1; rw [List.mem_singleton.1 ha]; exact hy.2) (fun a ha => by rcases List.mem_cons.1 ha with rfl | ha; exact hz.1; rw [List.mem_singleton.1 ha]; exact hz.2) (by simpa using h)
  simp at h
  exact Prod.ext h.1 (by omega)
/-- the set of the spots of a list, as a map -/
def oneU : DataW Unit := .lit (.int .i64 1)
def MapAt (W : World) (M : Nat) (L : List (Int × Nat)) : Prop := W.ownsMap Try.prog 67 (plainElem (H := Unit) Try.prog 3) M L.length (setOf oneU (L.map spKey))
theorem isMap_setOf (u : DataW Unit) (acc : List Lit) : IsMap (setOf u acc) := by
  unfold setOf
  have : ∀ (acc : List Lit) (m : DataW Unit), IsMap m → IsMap (acc.foldl (fun m x => m.put x u) m) := by
    intro acc
    induction acc with
    | nil => exact fun m h => h
    | cons x r ih => exact fun m h => ih _ (h.put x u)
  exact this acc _ isMap_empty
theorem atKey_fold_not (u z : DataW Unit) {k : Lit} : ∀ (acc : List Lit) (m : DataW Unit), k ∉ acc → (acc.foldl (fun m x => m.put x u) m).atKey k z = m.atKey k z
  | [], m, _ => rfl
  | x :: r, m, h => by
    rw [List.foldl_cons, atKey_fold_not u z r (m.put x u) (fun h' => h (List.mem_cons_of_mem _ h')), atKey_put_other (fun e => h (by rw [e]; exact List.mem_cons_self ..))]
theorem atKey_fold_in (u z : DataW Unit) {k : Lit} (hk : WideAt.IsKeyLit k) : ∀ (acc : List Lit) (m : DataW Unit), IsMap m → k ∈ acc → (acc.foldl (fun m x => m.put x u) m).atKey k z = u
  | [], m, _, h => by cases h
  | x :: r, m, hm, h => by
    rw [List.foldl_cons]
    by_cases hr : k ∈ r
    · exact atKey_fold_in u z hk r (m.put x u) (hm.put x u) hr
    · obtain rfl : k = x := (List.mem_cons.1 h).resolve_right hr
      rw [atKey_fold_not u z r _ hr, atKey_put_same hm hk]
theorem spKey_mem {L : List (Int × Nat)} (hL : ∀ y ∈ L, SpW y) {y : Int × Nat} (hy : SpW y) : spKey y ∈ L.map spKey ↔ y ∈ L := by
  constructor
  · intro h
    obtain ⟨z, hz, he⟩ := List.mem_map.1 h
    rw [← spKey_inj (hL z hz) hy he]
    exact hz
  · exact fun h => List.mem_map_of_mem h
theorem MapAt.at_ {L : List (Int × Nat)} (hL : ∀ y ∈ L, SpW y) {y : Int × Nat} (hy : SpW y) : (setOf oneU (L.map spKey)).atKey (spKey y) (.lit (.int .i64 0)) = .lit (.int .i64 (if y ∈ L then 1 else 0)) := by
  unfold setOf
  by_cases h : y ∈ L
  · rw [atKey_fold_in oneU _ (show WideAt.IsKeyLit (spKey y) from trivial) _ _ isMap_empty ((spKey_mem hL hy).2 h), if_pos h]; rfl
  · rw [atKey_fold_not oneU _ _ _ (fun h' => h ((spKey_mem hL hy).1 h')), if_neg h]; rfl
theorem MapAt.has {L : List (Int × Nat)} (hL : ∀ y ∈ L, SpW y) {y : Int × Nat} (hy : SpW y) : Maps.has (setOf oneU (L.map spKey)) (spKey y) = true ↔ y ∈ L := by
  rw [has_setOf oneU _ _ (fun x hx => by obtain ⟨z, _, rfl⟩ := List.mem_map.1 hx; exact trivial), List.any_eq_true]
  constructor
  · rintro ⟨x, hx, he⟩
    rw [WideAt.sameKey_eq he] at hx
    exact (spKey_mem hL hy).1 hx
  · exact fun h => ⟨spKey y, List.mem_map_of_mem h, WideAt.sameKey_self trivial⟩
theorem MapAt.made (w : World) : MapAt (w.alloc (.map #[] 0)) w.heap.size [] := World.ownsMap_made _ _ _ _
theorem MapAt.below {W W' : World} {M : Nat} {L : List (Int × Nat)} (h : MapAt W M L) (hb : Below W.heap.size W W') : MapAt W' M L :=
  World.ownsMap.kept (row := none) h ⟨hb.os, hb.tape, hb.output, hb.size, fun k hk _ => hb.block k hk⟩ (by simp)
theorem MapAt.lt {W : World} {M : Nat} {L : List (Int × Nat)} (h : MapAt W M L) : M < W.heap.size := World.ownsMap.lt h
theorem MapAt.step {L : List (Int × Nat)} {y : Int × Nat} {W : World} {M : Nat} (h : W.ownsMap Try.prog 67 (plainElem (H := Unit) Try.prog 3) M (L.length + 1) ((setOf oneU (L.map spKey)).put (spKey y) oneU)) : MapAt W M (L ++ [y]) := by
  unfold MapAt
  rw [List.map_append, List.map_cons, List.map_nil, setOf_snoc, List.length_append]
  exact h

/-- a row that the call made, of spots -/
def FromIs (W : World) (lo : Nat) (v : Value) (fr : List (Int × Nat)) : Prop := W.ownsRow lo 67 2 v fr.length (fr.flatMap spC)
theorem infoSpot : (Try.prog.info? 67).map (fun i => (i.zero, i.size, i.bytes)) = some (some (.agg #[.int .i64 0, .int .i64 0]), 2, 16) := by kernel_rfl
theorem spC_len (y : Int × Nat) : (spC y).length = 2 := rfl
theorem FromIs.pop {W : World} {lo n c : Nat} {A : Option Addr} {fr : List (Int × Nat)} {y : Int × Nat} (h : FromIs W lo (.slice A n c) (fr ++ [y])) : FromIs W lo (.slice A fr.length c) fr := by
  obtain ⟨h1, h2⟩ := h
  refine ⟨flatMap_len spC_len fr, ?_⟩
  rcases h2 with ⟨_, h2⟩ | ⟨g, cap, cur, hv, hg, hh, hn, hc, hs, ht⟩
  · simp at h2
  · simp at hv
    obtain ⟨rfl, rfl, rfl⟩ := hv
    rw [List.length_append] at hn ht
    refine .inr ⟨g, c, cur, rfl, hg, hh, by simp at hn; omega, hc, hs, ?_⟩
    have h3 := congrArg (List.take (fr.length * 2)) ht
    rw [List.take_take, Nat.min_eq_left (by simp; omega), List.flatMap_append, ← flatMap_len spC_len fr, List.take_left] at h3
    rw [← flatMap_len spC_len fr]
    exact h3
/-- the first n elements of a row are spots of a set -/
def RowIn (W : World) (r n : Nat) (S : Int × Nat → Prop) : Prop :=
  ∃ cur, W.heap[r]? = some (.cells cur 67 (0, 0)) ∧ n * 2 ≤ cur.size ∧ ∀ j, j < n → ∃ y, S y ∧ cur.toList[j * 2]? = some (.int .i64 y.1) ∧ cur.toList[j * 2 + 1]? = some (.int .i64 (y.2 : Int))
theorem RowIn.mono {W : World} {r n : Nat} {S S' : Int × Nat → Prop} (h : RowIn W r n S) (hs : ∀ y, S y → S' y) : RowIn W r n S' := by
  obtain ⟨cur, h1, h2, h3⟩ := h
  exact ⟨cur, h1, h2, fun j hj => by obtain ⟨y, hy, h4⟩ := h3 j hj; exact ⟨y, hs y hy, h4⟩⟩
theorem RowIn.heap {W W' : World} {r n : Nat} {S : Int × Nat → Prop} (h : RowIn W r n S) (he : W'.heap[r]? = W.heap[r]?) : RowIn W' r n S := by
  obtain ⟨cur, h1, h2⟩ := h
  exact ⟨cur, he.trans h1, h2⟩
theorem RowIn.lt {W : World} {r n : Nat} {S : Int × Nat → Prop} (h : RowIn W r n S) : r < W.heap.size := by
  obtain ⟨cur, h1, _⟩ := h
  exact (Array.getElem?_eq_some_iff.1 h1).1
theorem RowIn.of_from {W : World} {lo n r c : Nat} {fr : List (Int × Nat)} (h : FromIs W lo (.slice (some ⟨r, 0, none⟩) n c) fr) : RowIn W r fr.length (· ∈ fr) := by
  obtain ⟨h1, h2⟩ := h
  rcases h2 with ⟨h2, _⟩ | ⟨g, cap, cur, hv, hg, hh, hn, hc, hs, ht⟩
  · simp at h2
  · simp at hv
    obtain ⟨rfl, rfl, rfl⟩ := hv
    have hle := Nat.mul_le_mul_right 2 hn
    refine ⟨cur, hh, by omega, fun j hj => ⟨fr[j], List.getElem_mem hj, ?_⟩⟩
    have e : ∀ i u, (spC fr[j])[i]? = some u → cur.toList[j * 2 + i]? = some u := fun i u hu => by
      have := flatMap_get spC_len fr j hj i u hu
      rw [← ht] at this
      rw [List.getElem?_take] at this
      split at this
      · exact this
      · cases this
    exact ⟨e 0 _ rfl, e 1 _ rfl⟩
set_option maxRecDepth 100000 in
theorem run_append_sp {W : World} {lo : Nat} {v : Value} {fr : List (Int × Nat)} {y : Int × Nat} {B : Nat} (ty : TypeId) (hown : FromIs W lo v fr) (hB : W.heap[B]? = some (.cells #[.int .i64 y.1, .int .i64 (y.2 : Int)] 67 (0, 0))) (hl : fr.length ≤ 10000000) (hlo : lo ≤ W.heap.size) :
    ∃ v' W', (Builtin.append_ #[65, 65] ty #[v, .slice (some ⟨B, 0, none⟩) 1 1]).run Try.prog W = .ok v' W' ∧ FromIs W' lo v' (fr ++ [y]) ∧ W.grownBy W' v.ownBlock ∧
      (v'.ownBlock = v.ownBlock ∨ v'.ownBlock = some W.heap.size) ∧ ∀ r n S, RowIn W r n S → S y → RowIn W' r n S := by
  obtain ⟨i0, hi0, hz0, hz1, hz2⟩ := info_parts infoSpot
  have hnews : ∀ j u, (spC y)[j]? = some u → W.cell? ((⟨B, 0, none⟩ : Addr).add j) = some u := fun j u hu => by
    rw [Addr_add_off]
    simp only [World.cell?, hB, Nat.zero_add]
    match j, hu with
    | 0, hu => simpa [spC] using hu
    | 1, hu => simpa [spC] using hu
  have h1 : ∀ u ∈ spC y, u.oneCell' = true := by
    intro u hu
    simp only [spC, List.mem_cons, List.not_mem_nil, or_false] at hu
    rcases hu with rfl | rfl <;> rfl
  obtain ⟨v', W', hrun, ho, hg, _, hat⟩ := run_append_own_at (P := Try.prog) W lo 65 ty 67 i0 _ 2 16 Try.underlying65 hi0 hz0 hz1 hz2 rfl (by decide) v fr.length _ hown ⟨B, 0, none⟩ 1 1 (spC y) rfl hnews h1 (by unfold maxLen; omega) (by omega) hlo
  refine ⟨v', W', hrun, ?_, hg, hat, fun r n S hr hy => ?_⟩
  · unfold FromIs
    rw [List.length_append, List.flatMap_append]
    simpa using ho
  · by_cases hrv : v.ownBlock = some r
    · rcases hown.2 with ⟨rfl, _⟩ | ⟨g, cap, cur, rfl, hgl, hh, hn, hc, hs, ht⟩
      · cases hrv
      · obtain rfl : g = r := by simpa [Value.ownBlock] using hrv
        obtain ⟨cur', hh', hn2, hall⟩ := hr
        obtain rfl : cur' = cur := by rw [hh] at hh'; injection hh' with e; injection e with e1; exact e1.symm
        by_cases hroom : fr.length + 1 ≤ cap
        · have hR := run_append_room (P := Try.prog) W 65 ty 67 i0 Try.underlying65 hi0 g fr.length cap cur' hh ⟨B, 0, none⟩ 1 1 (spC y) (by rw [hz1]; rfl) hnews h1 hroom (by rw [hz1, hs, spC_len]; omega)
          rw [hrun] at hR
          injection hR with _ hW
          rw [hz1] at hW
          subst hW
          refine ⟨_, setRow_heap W g cur' _ _ _ hh, ?_, fun j hj => ?_⟩
          · simp only [List.size_toArray, List.length_append, List.length_take, List.length_drop, Array.length_toList, spC_len]
            omega
          · have hL : (cur'.toList.take (fr.length * 2)).length = fr.length * 2 := by simp; omega
            rcases Nat.lt_trichotomy j fr.length with h2 | h2 | h2
            · obtain ⟨z, hz, z1, z2⟩ := hall j hj
              refine ⟨z, hz, ?_, ?_⟩
              · rw [List.append_assoc, List.getElem?_append_left (by omega), List.getElem?_take_of_lt (by omega)]; exact z1
              · rw [List.append_assoc, List.getElem?_append_left (by omega), List.getElem?_take_of_lt (by omega)]; exact z2
            · subst h2
              refine ⟨y, hy, ?_, ?_⟩
              · rw [List.append_assoc, List.getElem?_append_right (by omega), hL, Nat.sub_self]; rfl
              · rw [List.append_assoc, List.getElem?_append_right (by omega), hL, show fr.length * 2 + 1 - fr.length * 2 = 1 by omega]; rfl
            · obtain ⟨z, hz, z1, z2⟩ := hall j hj
              have hL2 : (cur'.toList.take (fr.length * 2) ++ spC y).length = fr.length * 2 + 2 := by rw [List.length_append, hL, spC_len]
              refine ⟨z, hz, ?_, ?_⟩
              · rw [List.getElem?_append_right (by omega), hL2, List.getElem?_drop, spC_len, show fr.length * 2 + 2 + (j * 2 - (fr.length * 2 + 2)) = j * 2 by omega]; exact z1
              · rw [List.getElem?_append_right (by omega), hL2, List.getElem?_drop, spC_len, show fr.length * 2 + 2 + (j * 2 + 1 - (fr.length * 2 + 2)) = j * 2 + 1 by omega]; exact z2
        · have holds : ∀ j u, (fr.flatMap spC)[j]? = some u → W.cell? ((⟨g, 0, none⟩ : Addr).add j) = some u := World.ownsRow.cells hown (g := g) rfl
          have hR := run_append_grow (P := Try.prog) W 65 ty 67 i0 _ Try.underlying65 hi0 hz0 ⟨g, 0, none⟩ fr.length cap (fr.flatMap spC) (by rw [hz1]; exact flatMap_len spC_len fr) holds ⟨B, 0, none⟩ 1 1 (spC y) (by rw [hz1]; rfl) hnews (by omega) (by omega) (growslice_fits (by omega) (by rw [hz2]; omega))
          rw [hrun] at hR
          injection hR with _ hW
          subst hW
          refine RowIn.heap ⟨cur', hh', hn2, hall⟩ ?_
          exact Below.heap_alloc W.drew _ _ (Array.getElem?_eq_some_iff.1 hh).1
    · exact hr.heap (hg.block r hr.lt fun e => hrv e.symm)
end Go.Proofs.Ytoglgeaiiipchab

namespace Go.Proofs.Ytoglgeaiiipchab
open Go Go.RowKit Go.Maps

set_option maxRecDepth 100000 in
theorem keyOf_spot_inv {key : Value} {kl : Lit} (h : keyOf Try.prog 67 key = some kl) : ∃ z : Int × Int, key = .agg #[.int .i64 z.1, .int .i64 z.2] ∧ kl = .string (keyBytes [.int .i64 z.1, .int .i64 z.2]) ∧ (Lit.int .i64 z.1).wf = true ∧ (Lit.int .i64 z.2).wf = true := by
  have hc : Try.prog.cellsOf 67 = 2 := by kernel_rfl
  have hc1 : Try.prog.cellsOf 3 = 1 := by kernel_rfl
  have ht : Try.prog.keyType 67 = true := by kernel_rfl
  unfold keyOf at h
  simp only [Try.underlying67, ht, Bool.true_and] at h
  split at h
  · rename_i hf
    cases key <;> simp only [Value.formed, Try.underlying67, Bool.false_eq_true] at hf
    rename_i cs
    rw [hc] at hf
    obtain ⟨cl⟩ := cs
    match cl, hf with
    | [c0, c1], _ =>
      simp only [Value.cells] at h
      obtain ⟨ls, hls, rfl⟩ := Option.map_eq_some_iff.1 h
      unfold Program.keyLits at hls
      simp only [Try.underlying67, hc] at hls
      simp [hc1] at hls
      obtain ⟨l0, h0, hls⟩ := Option.bind_eq_some_iff.1 hls
      obtain ⟨n0, e0, rfl⟩ := keyLits_int' Try.underlying3 h0
      obtain ⟨l1, hls, hl1⟩ := Option.map_eq_some_iff.1 hls
      obtain ⟨l2, hl2, hls⟩ := Option.bind_eq_some_iff.1 hls
      obtain ⟨l3, h3, hl3⟩ := Option.bind_eq_some_iff.1 hl2
      obtain ⟨n1, e1, rfl⟩ := keyLits_int' Try.underlying3 h3
      obtain rfl : c0 = .int .i64 n0 := by simpa using e0
      obtain rfl : c1 = .int .i64 n1 := by simpa using e1
      have w0 := keyLits_wf h0 _ (List.mem_singleton.2 rfl)
      have w1 := keyLits_wf h3 _ (List.mem_singleton.2 rfl)
      obtain rfl := Option.some.inj hl3
      obtain rfl := Option.some.inj hls
      subst hl1
      exact ⟨(n0, n1), rfl, rfl, w0, w1⟩
  · cases h
/-- a key that is a spot's is that spot -/
theorem spot_of_key {z : Int × Int} {y : Int × Nat} (hz : (Lit.int .i64 z.1).wf = true ∧ (Lit.int .i64 z.2).wf = true) (hy : SpW y) (h : (Lit.string (keyBytes [.int .i64 z.1, .int .i64 z.2])) = spKey y) : z = (y.1, (y.2 : Int)) := by
  unfold spKey at h
  have h := keyBytes_inj (l := [.int .i64 z.1, .int .i64 z.2]) (l' := [.int .i64 y.1, .int .i64 y.2]) ⟨rfl, rfl, trivial⟩ (fun a ha => by rcases List.mem_cons.1 ha with rfl | ha; exact hz.1; rw [List.mem_singleton.1 ha]; exact hz.2) (fun a ha => by rcases List.mem_cons.1 ha with rfl | ha; exact hy.1; rw [List.mem_singleton.1 ha]; exact hy.2) (by simpa using h)
  simp at h
  exact Prod.ext h.1 h.2
theorem has_key {L : List (Int × Nat)} {kl : Lit} (h : Maps.has (setOf oneU (L.map spKey)) kl = true) : ∃ y ∈ L, kl = spKey y := by
  rw [has_setOf oneU _ _ (fun x hx => by obtain ⟨z, _, rfl⟩ := List.mem_map.1 hx; exact trivial), List.any_eq_true] at h
  obtain ⟨x, hx, he⟩ := h
  obtain ⟨y, hy, rfl⟩ := List.mem_map.1 hx
  exact ⟨y, hy, (WideAt.sameKey_eq he).symm⟩
end Go.Proofs.Ytoglgeaiiipchab
