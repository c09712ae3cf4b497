/- Walks: slices.SortFunc of steps by auto.Order; slices.Compact of steps. -/
import Derived.Test.YtoglgeaiiipchaaLBTM17
import Derived.Test.YtoglgeaiiipchaaSrtL
import Derived.Test.YtoglgeaiiipchaaLBTM7
import Derived.Test.YtoglgeaiiipchaaLBTM4
import Derived.Test.YtoglgeaiiipchaaLBTM11
import Derived.Shelf.SlSortCmp.NoneTotal
set_option linter.unusedSimpArgs false
set_option linter.unusedVariables false
namespace Go.Proofs.Ytoglgeaiiipchaa
open Go

section
variable {F : Fence} {n : Nat} {P : Program} {ops : Array Oper} {Q : Exit → Act → World → Prop} {md : Region.Mode} {S : World → Prop} {z : Nat}
/-- in every world that meets S, the operation leaves v and the world as it is -/
def YieldsZ (F : Fence) (n : Nat) (P : Program) (ops : Array Oper) (S : World → Prop) (o : Oper) (v : Value) (a : Act) : Prop := ∀ w, S w → YieldsQuiet F n P ops (fun w' => w' = w) o v a
theorem YieldsZ.wpOpIn {i : Nat} {o : Oper} {v : Value} {a : Act} (hnd : noDefer ops = true) (hi : ops[i]? = some o) (hy : YieldsZ F n P ops S o v a) {K : Act → World → Prop} {w : World} (hS : S w) (h : K (a.put o.dst v) w) : wpOpIn F n P ops Q i K a w := by
  have hq := (hy w hS).qOpIn hi (K := fun a' => a' = a.put o.dst v) rfl
  refine wpOpIn_of_qOpT (C := fun w' => w' = w) hnd rfl ?_ hq
  rintro a' w' rfl rfl
  exact h
theorem YieldsZ.of_same {o : Oper} {v : Value} {a a' : Act} (hy : YieldsZ F n P ops S o v a) (he : execOp a'.eval o = execOp a.eval o)
    (hw : Region.wanted o (yielded ops a'.tmps) = Region.wanted o (yielded ops a.tmps)) (hb : ∀ w, o.about P w a'.eval = o.about P w a.eval) : YieldsZ F n P ops S o v a' := fun w hS => (hy w hS).of_same he hw hb
theorem wpOpIn_putZ {j : Nat} {oi oj : Oper} {v : Value} (hnd : noDefer ops = true) (hj : ops[j]? = some oj) (hap : oi.apart ops oj = true)
    (hsi : ∀ cs b, oi.op ≠ .select cs b) (hsj : ∀ cs b, oj.op ≠ .select cs b)
    (hQ : ∀ c a w, Q (.panic c) (a.put oi.dst v) w → Q (.panic c) a w) {K : Act → World → Prop} {a : Act} {w : World}
    (hy : YieldsZ F n P ops S oi v a) (h : wpOpIn F n P ops Q j K (a.put oi.dst v) w) :
    wpOpIn F n P ops Q j (fun a' w' => YieldsZ F n P ops S oi v a' ∧ K (a'.put oi.dst v) w') a w := by
  obtain ⟨h1, h2, h3⟩ := Oper.apart_spec hap
  have keep : ∀ (a : Act), YieldsZ F n P ops S oi v a → ∀ u, YieldsZ F n P ops S oi v (a.put oj.dst u) := fun a hy u =>
    hy.of_same (execOp_put oi hsi a oj.dst u h3) (wanted_put oi a oj.dst u h3) (fun w => about_put oi w a oj.dst u h3)
  have keepD : ∀ d, YieldsZ F n P ops S oi v { a with defers := d :: a.defers } := fun d => hy.of_same rfl rfl (fun _ => rfl)
  have hdf := noDefer_spec hnd hj
  unfold wpOpIn at *
  simp only [hj] at *
  rw [wanted_put oj a oi.dst v h1, about_put oj w a oi.dst v h1] at h
  split
  · rename_i hw
    simp only [hw, if_true] at h
    unfold Oper.wpIn at *
    rw [about_put oj w a oi.dst v h1] at h
    refine ⟨h.1, ?_⟩
    have h := h.2
    rw [Oper.semAt_plain F _ _ hdf, execOp_put oj hsj a oi.dst v h1] at h
    rw [Oper.semAt_plain F _ _ hdf]
    generalize (execOp a.eval oj).run P w = r at *
    cases r with
    | ok x w' =>
      cases x <;> simp only [Oper.uponIn] at h ⊢
      case value u => exact ⟨keep a hy u, by rw [← Act.put_comm a v u h2]; exact h⟩
      case skip => exact ⟨keep a hy _, by rw [← Act.put_comm a v undef h2]; exact h⟩
      case defer d =>
        refine ⟨keep _ (keepD d) _, ?_⟩
        rw [← Act.put_comm _ v undef h2, ← Act.put_defers]
        exact h
      case enter f args =>
        refine ⟨h.1, CallsIn.mono h.2 fun e w'' he => ?_⟩
        cases e with
        | returned u => exact ⟨keep a hy u, by rw [← Act.put_comm a v u h2]; exact he⟩
        | panicked c => exact hQ _ _ _ he
        | outgrown => exact he
      case row row args => exact ⟨h.1, RowsIn.mono h.2 fun u w'' he => ⟨keep a hy u, by rw [← Act.put_comm a v u h2]; exact he⟩⟩
      case round l f tmps assign body =>
        refine ⟨h.1, RoundIn.mono h.2 fun e w'' he => ?_⟩
        cases e with
        | returned u => exact ⟨keep a hy u, by rw [← Act.put_comm a v u h2]; exact he⟩
        | panicked c => exact hQ _ _ _ he
        | outgrown => exact he
    | halt x w' =>
      cases x <;> simp only [Oper.uponIn] at h ⊢
      case panic u => exact hQ _ _ _ h
  · rename_i hw
    simp only [hw] at h
    exact ⟨h.1, keep a hy _, by rw [← Act.put_comm a v undef h2]; exact h.2⟩
/-- whatever order is picked from here on, S holds behind every operation but z -/
def wpAnyZIn (F : Fence) (n : Nat) (P : Program) (md : Region.Mode) (ops : Array Oper) (Q : Exit → Act → World → Prop) (S : World → Prop) (z : Nat) : Nat → Array Bool → Act → World → Prop
  | 0, listed, a, w => Region.ready md ops listed = [] ∧ Q .normal a w
  | fuel + 1, listed, a, w => (Region.ready md ops listed = [] → Q .normal a w) ∧
    ∀ i ∈ Region.ready md ops listed, wpOpIn F n P ops Q i (fun a' w' => (i = z ∨ S w') ∧ wpAnyZIn F n P md ops Q S z fuel (listed.setIfInBounds i true) a' w') a w
theorem wpAnyIn_of_Z : ∀ (fuel : Nat) (listed : Array Bool) (a : Act) (w : World), wpAnyZIn F n P md ops Q S z fuel listed a w → wpAnyIn F n P md ops Q fuel listed a w
  | 0, _, _, _, h => h
  | fuel + 1, _, _, _, h => ⟨h.1, fun i hi => wpOpIn_mono (fun a' w' h' => wpAnyIn_of_Z fuel _ a' w' h'.2) (h.2 i hi)⟩
theorem wpAnyZIn_first {i : Nat} {oi : Oper} {v : Value} (hnd : noDefer ops = true) (hi : ops[i]? = some oi) (hsel : ∀ (j : Nat) (o : Oper) cs b, ops[j]? = some o → o.op ≠ .select cs b)
    (hQ : ∀ c a w, Q (.panic c) (a.put oi.dst v) w → Q (.panic c) a w) (m : Nat) (hz : hangsB md ops i m z = true) :
    ∀ (fuel : Nat) (listed : Array Bool) (a : Act) (w : World), ClosedL md ops listed →
      (∀ j oj, ops[j]? = some oj → j ≠ i → listed.getD j true = false → (∀ e ∈ oj.after, Region.binds md e = true → e.on ≠ i) → oi.apart ops oj = true) →
      i ∈ Region.ready md ops listed → YieldsZ F n P ops S oi v a → S w →
      wpAnyZIn F n P md ops Q S z fuel (listed.setIfInBounds i true) (a.put oi.dst v) w → wpAnyZIn F n P md ops Q S z (fuel + 1) listed a w := by
  intro fuel
  induction fuel with
  | zero =>
    intro listed a w _ _ hr hy hS H
    refine ⟨fun h => (by rw [h] at hr; cases hr), fun j hj => ?_⟩
    by_cases hji : j = i
    · subst hji; exact hy.wpOpIn hnd hi hS ⟨.inr hS, H⟩
    · have := ready_mono hj hji
      rw [H.1] at this
      cases this
  | succ fuel ih =>
    intro listed a w hcl hfree hr hy hS H
    refine ⟨fun h => (by rw [h] at hr; cases hr), fun j hj => ?_⟩
    by_cases hji : j = i
    · subst hji; exact hy.wpOpIn hnd hi hS ⟨.inr hS, H⟩
    · have h1 := H.2 j (ready_mono hj hji)
      obtain ⟨hjun, oj, hoj, hall⟩ := mem_ready.1 hj
      have hjz : j ≠ z := by
        rintro rfl
        have := hangs_listed hcl m j hz fun oj' hoj' => by
          obtain rfl : oj' = oj := Option.some.inj (hoj'.symm.trans hoj)
          exact hall
        rw [ready_unlisted hr] at this
        cases this
      have hnot : ∀ e ∈ oj.after, Region.binds md e = true → e.on ≠ i := fun e he hb heq => by
        have h1 := hall e he hb
        rw [heq, ready_unlisted hr] at h1
        cases h1
      have h2 := wpOpIn_putZ hnd hoj (hfree j oj hoj hji hjun hnot) (fun cs b => hsel i oi cs b hi) (fun cs b => hsel j oj cs b hoj) hQ hy h1
      have hfree' : ∀ k ok, ops[k]? = some ok → k ≠ i → (listed.setIfInBounds j true).getD k true = false →
          (∀ e ∈ ok.after, Region.binds md e = true → e.on ≠ i) → oi.apart ops ok = true := fun k ok hk hki hun hno => by
        refine hfree k ok hk hki ?_ hno
        by_cases hjk : j = k
        · subst hjk; exact hjun
        · rw [getD_set_ne true hjk] at hun; exact hun
      refine wpOpIn_mono (fun a' w' h3 => ⟨h3.2.1, ih (listed.setIfInBounds j true) a' w' (hcl.set hj) hfree' (ready_mono hr (Ne.symm hji)) h3.1 (h3.2.1.resolve_left hjz) ?_⟩) h2
      rw [Array.setIfInBounds_comm _ _ hji]
      exact h3.2.2
theorem wpAnyZIn_take {l rest : List Oper} {i : Nat} {oi : Oper} {v : Value} {fuel : Nat} {listed : Array Bool} {a : Act} {w : World} (hi : l.drop i = oi :: rest) (hnd : noDefer l.toArray = true)
    (hs : Region.noSelect l.toArray = true) (hf : Region.free md l.toArray listed i = true) (hr : (Region.ready md l.toArray listed).contains i = true) (hc : closedB md l.toArray listed = true) (hz : hangsB md l.toArray i l.length z = true)
    (hQ : ∀ c a w, Q (.panic c) (a.put oi.dst v) w → Q (.panic c) a w) (hy : YieldsZ F n P l.toArray S oi v a) (hS : S w)
    (h : wpAnyZIn F n P md l.toArray Q S z fuel (listed.setIfInBounds i true) (a.put oi.dst v) w) : wpAnyZIn F n P md l.toArray Q S z (fuel + 1) listed a w :=
  wpAnyZIn_first hnd (get_of_dropZ hi) (Region.noSelect_spec hs) hQ l.length hz fuel listed a w (closedB_spec hc) (Region.free_spec (get_of_dropZ hi) hf) (by simpa using hr) hy hS h
/-- an operation that reads, by its run -/
theorem yieldsZ_of {o : Oper} {v : Value} {a : Act} (hp : ∀ c, o.op ≠ .call c) (hw : Region.wanted o (yielded ops a.tmps) = true) (h : ∀ w, S w → (execOp a.eval o).run P w = .ok (.value v) w) : YieldsZ F n P ops S o v a := fun w hS =>
  ⟨BigFrame.askedIn_plain hp, .inl ⟨hw, fun w' e => by subst e; unfold Oper.quietAtIn; rw [h w' hS]; exact ⟨rfl, rfl⟩⟩⟩
/-- a call that leaves the world as it is -/
theorem yieldsZ_call {o : Oper} {v : Value} {a : Act} (ha : ∀ w, S w → ∀ f, o.about P w a.eval = some f → F.fn f) (hw : Region.wanted o (yielded ops a.tmps) = true) {f : FuncId} {args : Array Value} (hx : ∀ w, (execOp a.eval o).run P w = .ok (.enter f args) w) (hd : F.depth.isSome = true → 1 ≤ n)
    (h : ∀ w, S w → CallsIn F (n - 1) P f args w fun e w' => e = .returned v ∧ w' = w) : YieldsZ F n P ops S o v a := fun w hS =>
  ⟨fun w' e => by subst e; exact ha w' hS, .inl ⟨hw, fun w' e => by subst e; unfold Oper.quietAtIn; rw [hx w']; exact ⟨rfl, hd, h w' hS⟩⟩⟩
/-- one alone may come up -/
theorem wpAnyZIn_one {l rest : List Oper} {i : Nat} {o : Oper} {fuel : Nat} {listed : Array Bool} {a : Act} {w : World} (hi : l.drop i = o :: rest) (hr : Region.ready md l.toArray listed = [i]) (hgd : o.guard = none)
    (h : ∀ K' : Act → World → Prop, Shut (∀ a w, (i = z ∨ S w) → wpAnyZIn F n P md l.toArray Q S z fuel (listed.setIfInBounds i true) a w → K' a w) → Oper.wpIn F n P o a w K' Q) :
    wpAnyZIn F n P md l.toArray Q S z (fuel + 1) listed a w := by
  refine ⟨fun h0 => by rw [hr] at h0; simp at h0, fun j hj => ?_⟩
  rw [hr] at hj
  obtain rfl := List.mem_singleton.1 hj
  unfold wpOpIn
  rw [get_of_dropZ hi]
  have hw : Region.wanted o (yielded l.toArray a.tmps) = true := by simp [Region.wanted, hgd]
  simp only [hw, if_true]
  exact h _ (fun a w hS hW => ⟨hS, hW⟩)
theorem wpAnyZIn_done {listed : Array Bool} {a : Act} {w : World} (hr : Region.ready md ops listed = []) (h : Q .normal a w) : ∀ fuel, wpAnyZIn F n P md ops Q S z fuel listed a w
  | 0 => ⟨hr, h⟩
  | _ + 1 => ⟨fun _ => h, by rw [hr]; simp⟩
/-- no way out by a panic -/
def noPanic (Q : Exit → Act → World → Prop) : Exit → Act → World → Prop
  | .panic _, _, _ => False
  | e, a, w => Q e a w
theorem noPanic_normal {a : Act} {w : World} (h : Q .normal a w) : noPanic Q .normal a w := h
theorem wpIn_region_Z {id : Nat} {a : Act} {w : World} (S : World → Prop) (z : Nat) (hm : P.follows .mixedOrders = true)
    (h : wpAnyZIn F n P .any ops (noPanic Q) S z ops.size (Array.replicate ops.size false) a w.drew) : (Code.region id ops true).wpIn F n P Q a w := by
  refine wpIn_mono (wpIn_region_any (Q := noPanic Q) hm (wpAnyIn_of_Z _ _ _ _ h)) ?_
  intro e a w h
  cases e <;> first | exact h | exact h.elim
/-- an append whose run is known -/
theorem step_appIn {w w' : World} {o : Oper} {a : Act} {K : Act → World → Prop} (s x : Operand) (t tn : TypeId)
    (ho : o.op = .call { callee := .builtin .append, args := #[s, x], argTypes := #[t, tn] }) (v u r : Value) (hs : a.eval s = v) (hx : a.eval x = u)
    (hrun : (Builtin.append_ #[t, tn] o.type #[v, u]).run P w = .ok r w') (h : K (a.put o.dst r) w') : Oper.wpIn F n P o a w K Q := by
  unfold Oper.wpIn
  refine ⟨by simp [Oper.about, ho, resolve, Target.leads, Sem.run_pure], ?_⟩
  rw [Oper.semAt_plain F _ _ (by rw [ho]; intro c hc'; cases hc')]
  unfold execOp
  simp only [ho, resolve, invoke, builtin, Sem.run_bind, Sem.run_pure, Result.andThen_ok, List.map_toArray, List.map_cons, List.map_nil, hs, hx, hrun]
  exact h
/-- a call, by its contract -/
theorem step_callIn {w : World} {o : Oper} {a : Act} {K : Act → World → Prop} {f : FuncId} {args : Array Value} (hx : (execOp a.eval o).run P w = .ok (.enter f args) w) (hdf : ∀ c, o.op ≠ .defer c) (hfn : ∀ f, F.fn f) (hd : F.depth.isSome = true → 1 ≤ n)
    (hc : CallsIn F (n - 1) P f args w fun e w' => ∃ v, e = .returned v ∧ K (a.put o.dst v) w') : Oper.wpIn F n P o a w K Q := by
  unfold Oper.wpIn
  refine ⟨fun f _ => hfn f, ?_⟩
  rw [Oper.semAt_plain F _ _ hdf, hx, Oper.uponIn_enter]
  refine ⟨hd, hc.mono ?_⟩
  rintro e w' ⟨v, rfl, h⟩
  exact h
theorem wpListIn_appRun {w w' : World} {rest : List Oper} {o : Oper} {a : Act} (hgd : o.guard = none) (s x : Operand) (t tn : TypeId)
    (ho : o.op = .call { callee := .builtin .append, args := #[s, x], argTypes := #[t, tn] }) (v u r : Value) (hs : a.eval s = v) (hx : a.eval x = u)
    (hrun : (Builtin.append_ #[t, tn] o.type #[v, u]).run P w = .ok r w') (h : wpListIn F n P ops Q rest (a.put o.dst r) w') : wpListIn F n P ops Q (o :: rest) a w :=
  wpListIn_plain hgd fun K' hK' => step_appIn s x t tn ho v u r hs hx hrun (hK' _ _ h)
end
end Go.Proofs.Ytoglgeaiiipchaa

namespace Go.Proofs.Ytoglgeaiiipchaa
open Go Go.RowKit Go.Sort Go.Shelf

instance : Inhabited Stp := ⟨⟨0, 0, 0⟩⟩
/-- a row of steps in block g, all of it -/
def SRow (w : World) (g cap : Nat) (xs : List Stp) : Prop := ∃ cur, w.heap[g]? = some (.cells cur 90 (0, 0)) ∧ xs.length ≤ cap ∧ cap ≤ maxLen ∧ cur.size = cap * 3 ∧ cur.toList.take (xs.length * 3) = xs.flatMap Stp.cells
theorem flat_len (xs : List Stp) : (xs.flatMap Stp.cells).length = xs.length * 3 := flatMap_len (sz := 3) (fun _ => rfl) xs
theorem SRow.of {w : World} {B g n cap : Nat} {xs : List Stp} (h : w.ownsRow B 90 3 (.slice (some ⟨g, 0, none⟩) n cap) xs.length (xs.flatMap Stp.cells)) : n = xs.length ∧ B ≤ g ∧ SRow w g cap xs := by
  rcases h.2 with ⟨h1, _⟩ | ⟨g', cap', cur, h1, h2, h3, h4, h5, h6, h7⟩
  · cases h1
  · simp only [Value.slice.injEq, Option.some.injEq, Addr.mk.injEq] at h1
    obtain ⟨⟨rfl, _⟩, rfl, rfl⟩ := h1
    exact ⟨rfl, h2, cur, h3, h4, h5, h6, h7⟩
theorem SRow.own {w : World} {B g cap : Nat} {xs : List Stp} (h : SRow w g cap xs) (hB : B ≤ g) : w.ownsRow B 90 3 (.slice (some ⟨g, 0, none⟩) xs.length cap) xs.length (xs.flatMap Stp.cells) := by
  obtain ⟨cur, h1, h2, h3, h4, h5⟩ := h
  exact ⟨flat_len xs, .inr ⟨g, cap, cur, rfl, hB, h1, h2, h3, h4, h5⟩⟩
theorem SRow.take {w : World} {g cap : Nat} {xs : List Stp} (h : SRow w g cap xs) {k : Nat} (hk : k ≤ xs.length) : SRow w g cap (xs.take k) := by
  obtain ⟨cur, h1, h2, h3, h4, h5⟩ := h
  refine ⟨cur, h1, by rw [List.length_take]; omega, h3, h4, ?_⟩
  have hl : (xs.take k).length = k := by rw [List.length_take]; omega
  have e := congrArg (List.take (k * 3)) h5
  rw [List.take_take, Nat.min_eq_left (by omega)] at e
  rw [hl, e]
  have := flat_len (xs.take k)
  rw [hl] at this
  conv => lhs; rw [show xs = xs.take k ++ xs.drop k from (List.take_append_drop k xs).symm, List.flatMap_append]
  rw [← this, List.take_left]
theorem SRow.get {w : World} {g cap : Nat} {xs : List Stp} (h : SRow w g cap xs) {j : Nat} {u : Value} (hu : (xs.flatMap Stp.cells)[j]? = some u) : w.cell? ⟨g, j, none⟩ = some u ∧ w.frozen? ⟨g, j, none⟩ = false := by
  obtain ⟨cur, h1, h2, h3, h4, h5⟩ := h
  have hj : j < xs.length * 3 := by
    have := (List.getElem?_eq_some_iff.1 hu).1
    rwa [flat_len] at this
  rw [← h5, List.getElem?_take_of_lt hj] at hu
  exact ⟨by simp only [World.cell?, h1]; simpa using hu, by simp [World.frozen?, h1]⟩
theorem SRow.lt {w : World} {g cap : Nat} {xs : List Stp} (h : SRow w g cap xs) : g < w.heap.size := by
  obtain ⟨cur, h1, _⟩ := h
  exact (Array.getElem?_eq_some_iff.1 h1).1
theorem SRow.at_ {w : World} {g cap : Nat} {xs : List Stp} (h : SRow w g cap xs) {k : Nat} (hk : k < xs.length) : w.cell? ⟨g, k * 3, none⟩ = some (.int .i64 xs[k].f) ∧ w.cell? ⟨g, k * 3 + 1, none⟩ = some (.int .i64 xs[k].l) ∧ w.cell? ⟨g, k * 3 + 2, none⟩ = some (.int .i64 xs[k].t) ∧
    w.frozen? ⟨g, k * 3, none⟩ = false ∧ w.frozen? ⟨g, k * 3 + 1, none⟩ = false ∧ w.frozen? ⟨g, k * 3 + 2, none⟩ = false := by
  have a0 := h.get (flatMap_get (enc := Stp.cells) (sz := 3) (fun _ => rfl) xs k hk 0 _ rfl)
  have a1 := h.get (flatMap_get (enc := Stp.cells) (sz := 3) (fun _ => rfl) xs k hk 1 _ rfl)
  have a2 := h.get (flatMap_get (enc := Stp.cells) (sz := 3) (fun _ => rfl) xs k hk 2 _ rfl)
  exact ⟨a0.1, a1.1, a2.1, a0.2, a1.2, a2.2⟩
theorem SRow.below {w w' : World} {g cap B : Nat} {xs : List Stp} (h : SRow w g cap xs) (hb : Below B w w') (hg : g < B) : SRow w' g cap xs := by
  obtain ⟨cur, h1, r⟩ := h
  exact ⟨cur, (hb.block g hg).trans h1, r⟩

/-! ### the sort -/
theorem flatK_list (d : List Stp) : (flatK Stp.cells 3 d.toArray).toList = d.flatMap Stp.cells := by
  refine List.ext_getElem (by rw [flat_len]; simp) fun i h1 h2 => ?_
  rw [flat_len] at h2
  have hk : i / 3 < d.length := by omega
  have e1 : (flatK Stp.cells 3 d.toArray)[i]! = (Stp.cells d.toArray[i / 3]!)[i % 3]! := get_flatK _ _ _ i (by simpa using h2)
  have h1' : i < (flatK Stp.cells 3 d.toArray).size := by simpa using h1
  rw [getElem!_pos (flatK Stp.cells 3 d.toArray) i h1'] at e1
  have e2 : d.toArray[i / 3]! = d[i / 3] := by simp [hk]
  have hm : i % 3 < (Stp.cells d[i / 3]).length := by simp [Stp.cells]; omega
  rw [e2, getElem!_pos (Stp.cells d[i / 3]) (i % 3) hm] at e1
  have e3 := flatMap_get (enc := Stp.cells) (sz := 3) (fun _ => rfl) d (i / 3) hk (i % 3) _ (List.getElem?_eq_getElem hm)
  rw [show i / 3 * 3 + i % 3 = i by omega] at e3
  rw [List.getElem?_eq_getElem (by rw [flat_len]; exact h2)] at e3
  rw [Option.some.inj e3, ← e1]
  simp
theorem SRow.holds {w : World} {g cap : Nat} {xs : List Stp} (h : SRow w g cap xs) : HoldsK Stp.cells 3 w g 0 xs.toArray := by
  intro j hj
  have hl := flatK_list xs
  have hj2 : j < (xs.flatMap Stp.cells).length := by rw [← hl]; simpa using hj
  have := h.get (List.getElem?_eq_getElem hj2)
  have e : (flatK Stp.cells 3 xs.toArray)[j]! = (xs.flatMap Stp.cells)[j] := by
    rw [getElem!_pos (flatK Stp.cells 3 xs.toArray) j hj]
    have h3 : (flatK Stp.cells 3 xs.toArray).toList[j]'(by simpa using hj) = (xs.flatMap Stp.cells)[j] := by simp only [hl]
    simpa using h3
  rw [Nat.zero_add]
  exact ⟨by rw [this.1, e]; rfl, this.2⟩
theorem SRow.sorted {w : World} {g cap n : Nat} {xs ys : List Stp} {os : Array Obj} (h : SRow w g cap xs) (hl : ys.length = xs.length) : SRow (sortWorldK Stp.cells 3 w g 0 n ys.toArray os) g cap ys ∧ w.grownBy (sortWorldK Stp.cells 3 w g 0 n ys.toArray os) (some g) := by
  have hlt := h.lt
  obtain ⟨cur, h1, h2, h3, h4, h5⟩ := h
  have hF : (flatK Stp.cells 3 ys.toArray).size = ys.length * 3 := by simp
  have hb : ∀ k, (sortWorldK Stp.cells 3 w g 0 n ys.toArray os).heap[k]? = if k < w.heap.size then (if k = g then some (.cells (putCells id 0 (flatK Stp.cells 3 ys.toArray) cur) 90 (0, 0)) else w.heap[k]?) else os[k - w.heap.size]? := by
    intro k
    show ((mapBlock (Sort.ahead w n) g (putCells id 0 (flatK Stp.cells 3 ys.toArray))).heap ++ os)[k]? = _
    have hs : (mapBlock (Sort.ahead w n) g (putCells id 0 (flatK Stp.cells 3 ys.toArray))).heap.size = w.heap.size := by simp [mapBlock, Sort.ahead]
    rw [Array.getElem?_append, hs]
    split
    · show ((w.heap.modify g (onCells (putCells id 0 (flatK Stp.cells 3 ys.toArray)))))[k]? = _
      rw [Array.getElem?_modify]
      by_cases e : g = k
      · subst e; rw [if_pos rfl, if_pos rfl, h1]; rfl
      · rw [if_neg e, if_neg (fun x => e x.symm)]
    · rfl
  refine ⟨⟨_, by rw [hb, if_pos hlt, if_pos rfl], by omega, h3, by simp [putCells, h4], ?_⟩, ⟨rfl, rfl, rfl, ?_, fun k hk hne => by rw [hb, if_pos hk, if_neg (fun e => hne (by rw [e]))]⟩⟩
  · rw [← flatK_list]
    refine List.ext_getElem (by simp [putCells, h4]; omega) fun i i1 i2 => ?_
    have hi : i < ys.length * 3 := by simpa using i2
    rw [List.getElem_take]
    simp only [putCells, Array.getElem_toList, Array.getElem_mapIdx]
    rw [if_pos ⟨Nat.zero_le _, by rw [hF]; omega⟩]
    have : i < (flatK Stp.cells 3 ys.toArray).size := by rw [hF]; exact hi
    rw [Nat.sub_zero, getElem!_pos (flatK Stp.cells 3 ys.toArray) i this]
    rfl
  · show w.heap.size ≤ ((mapBlock (Sort.ahead w n) g (putCells id 0 (flatK Stp.cells 3 ys.toArray))).heap ++ os).size
    simp [mapBlock, Sort.ahead]
set_option maxRecDepth 100000 in
set_option maxHeartbeats 1000000 in
theorem OrderG_ (s t : Stp) (w : World) : Calls Try.prog 83 #[.agg #[.int .i64 s.f, .int .i64 s.l, .int .i64 s.t], .agg #[.int .i64 t.f, .int .i64 t.l, .int .i64 t.t]] w fun e w' => e = .returned (.int .i64 (ordV s t)) ∧ ∃ q os', w' = grow (w.drewN q) os' := by
  have HW := Lib.hid (st2W_is w s t)
  have HF : Hid (ordV s t = orV [cmpI s.f t.f, cmpI s.l t.l, cmpI s.t t.t]) := rfl
  generalize ordV s t = v at *
  have HG : Hid (∀ o, ∃ q os', ((st2W w s t).alloc o).drew = grow (w.drewN q) os') := fun o => ⟨1, _, by unfold st2W; rw [alloc_eq_grow, alloc_eq_grow, alloc_eq_grow, grow_grow, grow_grow]; rfl⟩
  go_enter Try.func83, Try.ntmps83
  go_wp2_with fail
  change Code.wp _ _ _ _ (st2W w s t)
  generalize st2W w s t = W at *
  obtain ⟨X, hX⟩ : ∃ X, X = w.heap.size := ⟨_, rfl⟩
  have h0 := HW.out.s0
  have h1 := HW.out.s1
  have h2 := HW.out.s2
  have k0 := HW.out.t0
  have k1 := HW.out.t1
  have k2 := HW.out.t2
  rw [← hX] at h0 h1 h2 k0 k1 k2 ⊢
  have HX := Lib.hid hX
  clear hX
  go_region_held3 (fun w' => w'.cell? ⟨X, 0, none⟩ = some (.int .i64 s.f) ∧ w'.cell? ⟨X, 1, none⟩ = some (.int .i64 s.l) ∧ w'.cell? ⟨X, 2, none⟩ = some (.int .i64 s.t) ∧ w'.cell? ⟨X + 1, 0, none⟩ = some (.int .i64 t.f) ∧ w'.cell? ⟨X + 1, 1, none⟩ = some (.int .i64 t.l) ∧ w'.cell? ⟨X + 1, 2, none⟩ = some (.int .i64 t.t))
    (go_keep)
    (first
      | (go_at_call 87; refine (Compare_ _ _ _).mono ?_; rintro e w' ⟨rfl, rfl⟩)
      | (go_at_call 104; refine (OrI_ _ 3 [cmpI s.f t.f, cmpI s.l t.l, cmpI s.t t.t] _ ((ints3 W 3 _ _ _).below (Below.refl _ _).drew)).mono ?_; rintro e w' ⟨rfl, rfl⟩))
  all_goals
    go_wp2_with fail
    go_ret
    refine ⟨ret_int HF.out.symm, ?_⟩
    exact HG.out _
theorem ltOf_ord (s t : Stp) : ltOf ordV s t = stpLt s t := by
  unfold ltOf
  rw [Bool.eq_iff_iff, decide_eq_true_eq]
  exact ordV_lt s t
theorem stp_total {s t : Stp} (h1 : stpLt s t = false) (h2 : stpLt t s = false) : s = t := by
  have a1 : ¬ stpLt s t = true := by rw [h1]; decide
  have a2 : ¬ stpLt t s = true := by rw [h2]; decide
  rw [stpLt_iff] at a1 a2
  cases s; cases t
  simp only [Stp.mk.injEq] at *
  omega
theorem swoOrd : SWO (ltOf ordV) where
  irrefl x := by rw [ltOf_ord]; exact stpLt_irrefl x
  trans x y z h1 h2 := by rw [ltOf_ord] at *; exact stpLt_trans h1 h2
  ntrans x y z h1 h2 := by
    rw [ltOf_ord] at *
    have a1 : ¬ stpLt x y = true := by rw [h1]; decide
    have a2 : ¬ stpLt y z = true := by rw [h2]; decide
    cases h3 : stpLt x z with
    | false => rfl
    | true =>
      rw [stpLt_iff] at a1 a2 h3
      omega
def sortS (xs : List Stp) : List Stp := xs.mergeSort fun x y => !(ltOf ordV) y x
theorem sortS_perm (xs : List Stp) : (sortS xs).Perm xs := List.mergeSort_perm _ _
theorem sortS_len (xs : List Stp) : (sortS xs).length = xs.length := (sortS_perm xs).length_eq
theorem sortS_sorted (xs : List Stp) : (sortS xs).Pairwise fun x y => stpLt y x = false := by
  have h := List.pairwise_mergeSort (le := fun x y => !(ltOf ordV) y x) (fun a b c h1 h2 => by
    simp only [Bool.not_eq_true', Bool.not_eq_eq_eq_not, Bool.not_true] at *
    exact swoOrd.ntrans _ _ _ h2 h1) (fun a b => by
    cases h : ltOf ordV b a with
    | false => rfl
    | true =>
      have : ltOf ordV a b = false := by
        cases h2 : ltOf ordV a b with
        | false => rfl
        | true => have := swoOrd.trans _ _ _ h h2; rw [swoOrd.irrefl] at this; cases this
      rw [this]; rfl) xs
  refine h.imp fun {x y} h => ?_
  rw [← ltOf_ord]
  simpa using h
def SortPost (w : World) (B : Nat) (g : Option Nat) (v : Value) (xs : List Stp) (e : Ending) (w' : World) : Prop := e = .returned (.tuple #[]) ∧ w'.ownsRow B 90 3 v (sortS xs).length ((sortS xs).flatMap Stp.cells) ∧ w.grownBy w' g
theorem SortS_ (w : World) (B : Nat) (v : Value) (xs : List Stp) (h : w.ownsRow B 90 3 v xs.length (xs.flatMap Stp.cells)) (hxl : xs.length ≤ 1000000000) :
    Calls Try.prog 98 #[v, .func (.func 83) #[] #[]] w (SortPost w B v.ownBlock v xs) := by
  rcases h.2 with ⟨rfl, hn⟩ | ⟨g, cap, cur, rfl, hg, hh, hr⟩
  · have hx : xs = [] := List.eq_nil_of_length_eq_zero hn
    subst hx
    have := AnyF.slices_SortFunc_none (P := Try.prog) Try.sortStp none 0 (.func (.func 83) #[] #[]) w
    change Calls Try.prog 98 _ _ _ at this
    refine this.mono fun e w' ⟨he, hw⟩ => ?_
    subst hw
    have e0 : sortS [] = [] := List.eq_nil_of_length_eq_zero (sortS_len [])
    exact ⟨he, by rw [e0]; exact h, World.grownBy.refl _ _⟩
  · obtain ⟨_, _, hs⟩ := SRow.of h
    have hcon := AnyQ.slices_SortFunc_total (P := Try.prog) Try.sortStp 3 (by intro w; kernel_rfl) (by intro w; kernel_rfl) Stp.cells (fun _ => rfl) (fun x v hv => by simp [Stp.cells] at hv; rcases hv with rfl | rfl | rfl <;> rfl) ordV swoOrd 83 #[] g 0 cap xs.toArray w
      (enters_of Try.func83 (by kernel_rfl) rfl) (fun _ _ _ _ x y => OrderG_ x y _) hs.holds hs.lt (by simp; omega) (fun x y h1 h2 => stp_total (by rw [← ltOf_ord]; exact h1) (by rw [← ltOf_ord]; exact h2))
    change Calls Try.prog 98 _ _ _ at hcon
    refine hcon.mono fun e w' ⟨he, n, os, hw⟩ => ?_
    have hs2 := hs.sorted (n := n) (ys := sortS xs) (os := os) (sortS_len xs)
    have ew : w' = sortWorldK Stp.cells 3 w g 0 n (sortS xs).toArray os := hw
    rw [← ew] at hs2
    refine ⟨he, ?_, hs2.2⟩
    have := hs2.1.own hg
    rwa [sortS_len] at this ⊢
end Go.Proofs.Ytoglgeaiiipchaa
