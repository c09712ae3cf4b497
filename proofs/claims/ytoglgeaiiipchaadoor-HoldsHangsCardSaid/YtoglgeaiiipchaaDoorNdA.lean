/- append of one node onto nodes that the call made; what a chain of such appends and calls leaves. -/
import Derived.Test.YtoglgeaiiipchaaDoorApp
import Derived.Test.YtoglgeaiiipchaaDoorTy
import Derived.Maps.Range
namespace Go.Proofs.YtoglgeaiiipchaaDoor
open Go Go.RowKit

theorem infoNode : (Tryd.prog.info? 45).map (fun i => (i.zero, i.size, i.bytes)) = some (some (.agg #[.int .i64 0, .int .i64 0, .int .i64 0, .int .i64 0]), 4, 32) := by kernel_rfl
theorem step_appRun {P : Program} {w w' : World} {ops : Array Oper} {o : Oper} {a : Act} {K : Act → World → Prop} {Q : Exit → Act → World → Prop} {E : Prop} (hgd : o.guard = none) (s x : Operand) (t tn : TypeId)
    (ho : o.op = .call { callee := .builtin .append, args := #[s, x], argTypes := #[t, tn] }) (v u r : Value) (hs : a.eval s = v) (hx : a.eval x = u)
    (hrun : (Builtin.append_ #[t, tn] o.type #[v, u]).run P w = .ok r w') (h : K (a.put o.dst r) w') :
    if Region.wanted o (yielded ops a.tmps) = true then Oper.wp P o a w K Q else E := by
  have hw : Region.wanted o (yielded ops a.tmps) = true := by simp [Region.wanted, hgd]
  rw [if_pos hw]
  unfold Oper.wp execOp
  simp only [ho, resolve, invoke, builtin, Sem.run_bind, Sem.run_pure, Result.andThen_ok, List.map_toArray, List.map_cons, List.map_nil, hs, hx, hrun]
  exact h
/-- from W0 on, but for a block that was owned there, all that there was stays; the nodes o are owned by v -/
structure NOwn (base : Nat) (W0 : World) (row : Option Nat) (W : World) (v : Value) (o : List Nd) : Prop where
  own : W.ownsRow base 45 4 v o.length (o.flatMap Nd.cells)
  gr : W0.grownBy W row
  bl : ∀ k, v.ownBlock = some k → row = some k ∨ W0.heap.size ≤ k
section
variable {base : Nat} {W0 W W' : World} {row : Option Nat} {v : Value} {o : List Nd}
theorem NOwn.form (h : NOwn base W0 row W v o) (hl : o.length ≤ 1000000) : ∃ A c, v = .slice A o.length c ∧ Nds W base A c o := SlE.of_own h.own (by omega)
theorem NOwn.below (h : NOwn base W0 row W v o) (hb : Below W.heap.size W W') : NOwn base W0 row W' v o :=
  ⟨own_below h.own hb, h.gr.trans ⟨hb.os, hb.tape, hb.output, hb.size, fun k hk _ => hb.block k hk⟩, h.bl⟩
theorem NOwn.alloc (h : NOwn base W0 row W v o) (x : Obj) : NOwn base W0 row (W.alloc x) v o := h.below ((Below.refl _ _).alloc (Nat.le_refl _) _)
theorem NOwn.refl (h : W.ownsRow base 45 4 v o.length (o.flatMap Nd.cells)) : NOwn base W v.ownBlock W v o := ⟨h, World.grownBy.refl _ _, fun _ hk => .inl hk⟩
theorem NOwn.cell (h : NOwn base W0 row W v o) {a : Addr} {u : Value} (hc : W0.cell? a = some u) (hne : some a.block ≠ row) : W.cell? a = some u := h.gr.cell hc hne
theorem NOwn.belowB {B : Nat} {w : World} (h : NOwn base W0 row W v o) (hb : Below B w W0) (hB : B ≤ W0.heap.size) (hrow : ∀ k, row = some k → B ≤ k) : Below B w W := hb.grown h.gr hB hrow
/-- what a call that goes on with owned nodes leaves -/
def NTo (base : Nat) (o' : List Nd) (v : Value) (W : World) (e : Ending) (w' : World) : Prop := ∃ v', e = .returned v' ∧ NOwn base W v.ownBlock w' v' o'
theorem NOwn.call {o' : List Nd} {v' : Value} (h : NOwn base W0 row W v o) (hc : NOwn base W v.ownBlock W' v' o') : NOwn base W0 row W' v' o' := by
  refine ⟨hc.own, h.gr.andThen hc.gr (fun j hj => ?_), fun k hk => ?_⟩
  · rcases h.bl j hj with h1 | h1
    · exact .inr h1
    · exact .inl h1
  · rcases hc.bl k hk with h1 | h1
    · exact h.bl k h1
    · exact .inr (Nat.le_trans h.gr.size h1)
theorem NOwn.app (h : NOwn base W0 row W v o) (x : Nd) (hl : o.length ≤ 1000000) (hb : base ≤ W.heap.size) :
    ∃ T c w', (Builtin.append_ #[23, 23] 23 #[v, .slice (some ⟨W.heap.size, 0, none⟩) 1 1]).run Tryd.prog (W.alloc (.cells #[.int .i64 x.k, .int .i64 x.a, .int .i64 x.b, .int .i64 x.n] 45)) = .ok (.slice T (o.length + 1) c) w' ∧
      NOwn base W0 row w' (.slice T (o.length + 1) c) (o ++ [x]) ∧ W.grownBy w' v.ownBlock := by
  obtain ⟨i0, hi0, hz0, hz1, hz2⟩ := info_parts infoNode
  have ha := h.alloc (.cells #[.int .i64 x.k, .int .i64 x.a, .int .i64 x.b, .int .i64 x.n] 45)
  obtain ⟨v', w', hrun, h2, h3, h4⟩ := run_app (P := Tryd.prog) (W.alloc (.cells #[.int .i64 x.k, .int .i64 x.a, .int .i64 x.b, .int .i64 x.n] 45)) base 23 23 45 i0 _ 4 32 Tryd.underlying23 hi0 hz0 hz1 hz2 rfl (by decide)
    v o.length _ ha.own (some ⟨W.heap.size, 0, none⟩) 1 1 x.cells rfl (fun _ => ⟨_, 0, rfl, Nat.zero_le _, by simp, fun j u hu => by
      have h : (W.alloc (Obj.cells #[.int .i64 x.k, .int .i64 x.a, .int .i64 x.b, .int .i64 x.n] 45)).heap[W.heap.size]? = some (Obj.cells #[.int .i64 x.k, .int .i64 x.a, .int .i64 x.b, .int .i64 x.n] 45) := by
        show (W.heap.push _)[W.heap.size]? = _
        simp
      simp only [World.cell?, h, Nat.zero_add]
      simpa [Nd.cells] using hu⟩)
    (by intro u hu; simp only [Nd.cells, List.mem_cons, List.not_mem_nil, or_false] at hu; rcases hu with rfl | rfl | rfl | rfl <;> rfl)
    (by simp only [maxLen]; omega) (by omega) (by simp; omega)
  have hown : w'.ownsRow base 45 4 v' (o ++ [x]).length ((o ++ [x]).flatMap Nd.cells) := by simpa using h2
  obtain ⟨T, c, hv, _⟩ := own_form hown
  rw [show (o ++ [x]).length = o.length + 1 by simp] at hv
  subst hv
  have hg : W.grownBy w' v.ownBlock := (World.grownBy_alloc W _ _).trans h3
  have hbl : ∀ k, (Value.slice T (o.length + 1) c).ownBlock = some k → v.ownBlock = some k ∨ W.heap.size ≤ k := by
    intro k hk
    rcases h4 with h4 | h4
    · exact .inl (h4 ▸ hk)
    · rw [h4] at hk
      simp at hk
      exact .inr (by omega)
  exact ⟨T, c, w', hrun, h.call ⟨hown, hg, hbl⟩, hg⟩
end
end Go.Proofs.YtoglgeaiiipchaaDoor
