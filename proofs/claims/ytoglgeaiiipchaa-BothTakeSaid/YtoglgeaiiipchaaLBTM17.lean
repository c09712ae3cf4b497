/- A region that draws its order and ends in one operation that writes a cell that others of it load: the loads are taken first all the same, for the last one hangs on them all. -/
import Derived.Sort.BigQuietIn
import Derived.OwnWalkIn
import Derived.Test.YtoglgeaiiipchaaLBTM1
import Derived.OrdersHeld
import Derived.Deep.RegionHeld
set_option linter.unusedSimpArgs false
set_option linter.unusedVariables false
namespace Go.Proofs.Ytoglgeaiiipchaa
open Go

section
variable {F : Fence} {n : Nat} {P : Program} {ops : Array Oper} {md : Region.Mode} {C : World → Prop}

/-- whatever order is picked, up to where operation c alone may come up -/
def wpAnyT (F : Fence) (n : Nat) (P : Program) (md : Region.Mode) (ops : Array Oper) (C : World → Prop) (c : List Nat) (Q : Nat → Array Bool → Act → Prop) : Nat → Array Bool → Act → Prop
  | 0, listed, a => Region.ready md ops listed = c ∧ Q 0 listed a
  | fuel + 1, listed, a =>
    (Region.ready md ops listed = c → Q (fuel + 1) listed a) ∧
    (Region.ready md ops listed ≠ c → Region.ready md ops listed ≠ [] ∧ ∀ i ∈ Region.ready md ops listed, qOpIn F n P ops C i (wpAnyT F n P md ops C c Q fuel (listed.setIfInBounds i true)) a)

/-- what has come up has what it waits for -/
def DownC (md : Region.Mode) (ops : Array Oper) (listed : Array Bool) : Prop := ∀ k ok, ops[k]? = some ok → listed.getD k true = true → ∀ e ∈ ok.after, Region.binds md e = true → listed.getD e.on false = true
theorem DownC.start : DownC md ops (Array.replicate ops.size false) := by
  intro k ok hk h
  have hlt := (Array.getElem?_eq_some_iff.1 hk).1
  simp [hlt] at h
theorem getD_true_false {listed : Array Bool} {i : Nat} (h : listed.getD i false = true) : listed.getD i true = true := by
  rcases Nat.lt_or_ge i listed.size with h' | h'
  · simpa [h'] using h
  · simp [Array.getElem?_eq_none h'] at h
theorem DownC.step {listed : Array Bool} (h : DownC md ops listed) {j : Nat} (hj : j ∈ Region.ready md ops listed) : DownC md ops (listed.setIfInBounds j true) := by
  intro k ok hk hl e he hb
  by_cases hjk : j = k
  · subst hjk
    obtain ⟨_, o, ho, hall⟩ := mem_ready.1 hj
    obtain rfl : o = ok := Option.some.inj (ho.symm.trans hk)
    exact getD_set_true (hall e he hb)
  · rw [getD_set_ne true hjk] at hl
    exact getD_set_true (h k ok hk hl e he hb)

/-- the operations that c waits for, they and those that they wait for -/
def marksT (md : Region.Mode) (ops : Array Oper) (c : Nat) : List Nat :=
  (List.range (c + 1)).reverse.foldl (fun ms k => if ms.contains k then (match ops[k]? with | some o => (o.after.toList.filter (fun e => Region.binds md e)).map (·.on) | none => []) ++ ms else ms) [c]
theorem marks_listed {c : Nat} {listed : Array Bool} (hd : DownC md ops listed) (hc : c ∈ Region.ready md ops listed) : ∀ x ∈ marksT md ops c, x ≠ c → listed.getD x false = true := by
  unfold marksT
  have key : ∀ (ks ms : List Nat), (∀ x ∈ ms, x ≠ c → listed.getD x false = true) →
      ∀ x ∈ ks.foldl (fun ms k => if ms.contains k then (match ops[k]? with | some o => (o.after.toList.filter (fun e => Region.binds md e)).map (·.on) | none => []) ++ ms else ms) ms, x ≠ c → listed.getD x false = true := by
    intro ks
    induction ks with
    | nil => exact fun ms h => h
    | cons k ks ih =>
      intro ms h
      rw [List.foldl_cons]
      refine ih _ ?_
      split
      · rename_i hk
        have hk := List.contains_iff_mem.1 hk
        intro x hx hxc
        rcases List.mem_append.1 hx with hx | hx
        · split at hx
          · rename_i o ho
            obtain ⟨e, he, rfl⟩ := List.mem_map.1 hx
            obtain ⟨he, hb⟩ := List.mem_filter.1 he
            have he := Array.mem_toList_iff.1 he
            by_cases hkc : k = c
            · subst hkc
              obtain ⟨_, o', ho', hall⟩ := mem_ready.1 hc
              obtain rfl : o' = o := Option.some.inj (ho'.symm.trans ho)
              exact hall e he hb
            · exact hd k o ho (getD_true_false (h k hk hkc)) e he hb
          · cases hx
        · exact h x hx hxc
      · exact h
  exact key _ [c] (fun x hx hxc => absurd (List.mem_singleton.1 hx) hxc)

theorem wpAnyT_first {c : Nat} {cs : List Nat} (hcs : ∀ x ∈ cs, x = c) {Q : Nat → Array Bool → Act → Prop} {i : Nat} {oi : Oper} {v : Value} (hi : ops[i]? = some oi) (hsel : ∀ (j : Nat) (o : Oper) cs b, ops[j]? = some o → o.op ≠ .select cs b) (hic : i ≠ c) (him : i ∈ marksT md ops c) :
    ∀ (fuel : Nat) (listed : Array Bool) (a : Act), DownC md ops listed →
      (∀ j oj, ops[j]? = some oj → j ≠ i → listed.getD j true = false → (∀ e ∈ oj.after, Region.binds md e = true → e.on ≠ i) → oi.apart ops oj = true) →
      i ∈ Region.ready md ops listed → YieldsQuiet F n P ops C oi v a →
      wpAnyT F n P md ops C cs Q fuel (listed.setIfInBounds i true) (a.put oi.dst v) → wpAnyT F n P md ops C cs Q (fuel + 1) listed a := by
  have nc : ∀ listed, DownC md ops listed → i ∈ Region.ready md ops listed → c ∉ Region.ready md ops listed := fun listed hd hr hcr => by
    have h1 := marks_listed hd hcr i him hic
    have h0 := (mem_ready.1 hr).1
    rw [getD_true_false h1] at h0
    cases h0
  intro fuel
  induction fuel with
  | zero =>
    intro listed a hdn _ hr hy H
    refine ⟨fun h => absurd (hcs i (by rw [← h]; exact hr)) hic, fun _ => ⟨fun h => (by rw [h] at hr; cases hr), fun j hj => ?_⟩⟩
    by_cases hji : j = i
    · subst hji; exact hy.qOpIn hi H
    · have := ready_mono hj hji
      rw [H.1] at this
      exact absurd (by rw [← hcs j this]; exact hj) (nc listed hdn hr)
  | succ fuel ih =>
    intro listed a hdn hfree hr hy H
    refine ⟨fun h => absurd (hcs i (by rw [← h]; exact hr)) hic, fun _ => ⟨fun h => (by rw [h] at hr; cases hr), fun j hj => ?_⟩⟩
    by_cases hji : j = i
    · subst hji; exact hy.qOpIn hi H
    · have hjr := ready_mono hj hji
      have hne : Region.ready md ops (listed.setIfInBounds i true) ≠ cs := fun h => by
        rw [h] at hjr
        exact absurd (by rw [← hcs j hjr]; exact hj) (nc listed hdn hr)
      have h1 := (H.2 hne).2 j hjr
      obtain ⟨hjun, oj, hoj, hall⟩ := mem_ready.1 hj
      have hnot : ∀ e ∈ oj.after, Region.binds md e = true → e.on ≠ i := fun e he hb heq => by
        have h1 := getD_true_false (hall e he hb)
        have h0 := (mem_ready.1 hr).1
        rw [heq, h0] at h1
        cases h1
      have h2 := qOpIn_put hoj (hfree j oj hoj hji hjun hnot) (fun cs b => hsel i oi cs b hi) (fun cs b => hsel j oj cs b hoj) hy h1
      have hfree' : ∀ k ok, ops[k]? = some ok → k ≠ i → (listed.setIfInBounds j true).getD k true = false →
          (∀ e ∈ ok.after, Region.binds md e = true → e.on ≠ i) → oi.apart ops ok = true := fun k ok hk hki hun hno => by
        refine hfree k ok hk hki ?_ hno
        by_cases hjk : j = k
        · subst hjk; exact hjun
        · rw [getD_set_ne true hjk] at hun; exact hun
      refine qOpIn_mono (fun a' h3 => ih (listed.setIfInBounds j true) a' (hdn.step hj) hfree' (ready_mono hr (Ne.symm hji)) h3.1 ?_) h2
      rw [Array.setIfInBounds_comm _ _ hji]
      exact h3.2

/-- the first m operations, from number k on, may be taken in order; behind them is reached what c is -/
def Region.lexUpto (md : Region.Mode) (ops : Array Oper) (c : List Nat) (ms : List Nat) : Nat → Nat → Array Bool → Bool
  | 0, _, listed => Region.ready md ops listed == c
  | fuel + 1, k, listed => (Region.ready md ops listed).contains k && Region.free md ops listed k && ms.contains k && Region.lexUpto md ops c ms fuel (k + 1) (listed.setIfInBounds k true)
def listedBy : Nat → Nat → Array Bool → Array Bool
  | 0, _, listed => listed
  | fuel + 1, k, listed => listedBy fuel (k + 1) (listed.setIfInBounds k true)

theorem wpAnyT_lex {c : Nat} {cs : List Nat} (hcs : ∀ x ∈ cs, x = c) {Q : Nat → Array Bool → Act → Prop} (hs : Region.noSelect ops = true) (r : Nat) : ∀ (l : List Oper) (k : Nat) (listed : Array Bool) (a : Act), (∀ j, j < l.length → l[j]? = ops[k + j]?) → k + l.length ≤ c → DownC md ops listed →
    Region.lexUpto md ops cs (marksT md ops c) l.length k listed = true → wpQuietIn F n P ops C (fun a' => Q r (listedBy l.length k listed) a') l a → wpAnyT F n P md ops C cs Q (l.length + r) listed a
  | [], k, listed, a, _, _, _, hB, h => by
    have hB : Region.ready md ops listed = cs := by simpa [Region.lexUpto] using hB
    rw [List.length_nil, Nat.zero_add]
    cases r with
    | zero => exact ⟨hB, h⟩
    | succ r => exact ⟨fun _ => h, fun hn => absurd hB hn⟩
  | o :: l, k, listed, a, hl, hkc, hdn, hB, h => by
    have h0 : ops[k]? = some o := by simpa using (hl 0 (by simp)).symm
    simp only [List.length_cons, Region.lexUpto, Bool.and_eq_true] at hB
    obtain ⟨⟨⟨hr, hf⟩, hm⟩, hB'⟩ := hB
    have hrk : k ∈ Region.ready md ops listed := by simpa using hr
    have hst : qOpIn F n P ops C k (wpQuietIn F n P ops C (fun a' => Q r (listedBy l.length (k + 1) (listed.setIfInBounds k true)) a') l) a := by unfold qOpIn; simp only [h0]; exact h
    obtain ⟨v, hy, hK⟩ := yieldsQuiet_of_qOpIn h0 hst
    have := wpAnyT_first hcs (Q := Q) h0 (Region.noSelect_spec hs) (by simp at hkc; omega) (List.contains_iff_mem.1 hm) (l.length + r) listed a hdn (Region.free_spec h0 hf) hrk hy
      (wpAnyT_lex hcs hs r l (k + 1) _ _ (fun j hj => by have := hl (j + 1) (by simp; omega); simpa [Nat.add_assoc, Nat.add_comm 1 j] using this) (by simp at hkc; omega) (hdn.step hrk) hB' hK)
    rw [List.length_cons, show l.length + 1 + r = l.length + r + 1 by omega]
    exact this

/-- no defer statement -/
def noDefer (ops : Array Oper) : Bool := ops.all fun o => match o.op with | .defer _ => false | _ => true
theorem noDefer_spec (h : noDefer ops = true) {i : Nat} {o : Oper} (hi : ops[i]? = some o) : ∀ c, o.op ≠ .defer c := by
  intro c hc
  have := Array.all_eq_true'.1 h o (Array.mem_of_getElem? hi)
  rw [hc] at this
  cases this
theorem Oper.wpIn_of_quietT {o : Oper} {a : Act} {K : Act → Prop} {K' : Act → World → Prop} {Q' : Exit → Act → World → Prop} {w : World} (hnd : ∀ c, o.op ≠ .defer c) (hw : C w) (h : ∀ a w', C w' → K a → K' a w')
    (ha : o.askedIn F P a C) (hh : o.quietIn F n P a C K) : o.wpIn F n P a w K' Q' := by
  obtain ⟨v, h1, h2⟩ := hh
  have h3 := h1 w hw
  unfold Oper.quietAtIn at h3
  unfold Oper.wpIn
  refine ⟨ha w hw, ?_⟩
  rw [Oper.semAt_plain F _ _ hnd]
  generalize (execOp a.eval o).run P w = r at *
  cases r with
  | ok x w' =>
    cases x <;> simp only [Oper.quietUponIn] at h3 <;> simp only [Oper.uponIn]
    case value u =>
      obtain ⟨e1, e2⟩ := h3
      rw [e1, e2]
      exact h _ _ hw h2
    case skip =>
      obtain ⟨e1, e2⟩ := h3
      rw [e1, ← e2]
      exact h _ _ hw h2
    case enter f args =>
      obtain ⟨e1, hd, hc⟩ := h3
      rw [e1]
      exact ⟨hd, hc.mono fun e w'' ⟨he, hw''⟩ => by subst he; exact h _ _ hw'' h2⟩
  | halt x w' => simp only [Oper.quietUponIn] at h3
theorem wpOpIn_of_qOpT {i : Nat} {a : Act} {K : Act → Prop} {K' : Act → World → Prop} {Q' : Exit → Act → World → Prop} {w : World} (hnd : noDefer ops = true) (hC : C w) (h : ∀ a w', C w' → K a → K' a w')
    (hh : qOpIn F n P ops C i K a) : wpOpIn F n P ops Q' i K' a w := by
  unfold qOpIn at hh
  unfold wpOpIn
  split
  · rename_i ho; simp only [ho] at hh; exact h _ _ hC hh
  · rename_i o ho
    simp only [ho] at hh
    obtain ⟨ha, hh⟩ := hh
    split
    · rename_i hw; simp only [hw, if_true] at hh; exact Oper.wpIn_of_quietT (noDefer_spec hnd ho) hC h ha hh
    · rename_i hw; simp only [hw] at hh; exact ⟨ha w hC, h _ _ hC hh⟩
theorem wpAnyIn_of_T {cs : List Nat} {Q : Nat → Array Bool → Act → Prop} {Q' : Exit → Act → World → Prop} (hnd : noDefer ops = true) (hQ : ∀ r listed a w, C w → Q r listed a → wpAnyIn F n P md ops Q' r listed a w) : ∀ (fuel : Nat) (listed : Array Bool) (a : Act) (w : World), C w →
    wpAnyT F n P md ops C cs Q fuel listed a → wpAnyIn F n P md ops Q' fuel listed a w
  | 0, _, _, _, hw, h => hQ _ _ _ _ hw h.2
  | fuel + 1, listed, a, w, hw, h => by
    by_cases hc : Region.ready md ops listed = cs
    · exact hQ _ _ _ _ hw (h.1 hc)
    · obtain ⟨h1, h2⟩ := h.2 hc
      exact ⟨fun h0 => absurd h0 h1, fun i hi => wpOpIn_of_qOpT hnd hw (fun a' w' hw' => wpAnyIn_of_T hnd hQ fuel _ a' w' hw') (h2 i hi)⟩

theorem wpQuietIn_mono' {Q Q' : Act → Prop} (h : ∀ a, Q a → Q' a) : ∀ (l : List Oper) (a : Act), wpQuietIn F n P ops C Q l a → wpQuietIn F n P ops C Q' l a
  | [], a, hh => h a hh
  | o :: l, a, hh => by
    refine ⟨hh.1, ?_⟩
    have h2 := hh.2
    split
    · rename_i hw
      simp only [hw, if_true] at h2
      exact Oper.quietIn_mono (wpQuietIn_mono' h l) h2
    · rename_i hw
      simp only [hw] at h2
      exact wpQuietIn_mono' h l _ h2
/-- from number k on, one behind another -/
def Region.rowFrom (md : Region.Mode) (ops : Array Oper) : Nat → Nat → Array Bool → Bool
  | 0, _, listed => (Region.ready md ops listed).isEmpty
  | fuel + 1, k, listed => (Region.ready md ops listed == [k]) && Region.rowFrom md ops fuel (k + 1) (listed.setIfInBounds k true)
theorem wpAnyIn_row {Q : Exit → Act → World → Prop} : ∀ (l : List Oper) (k : Nat) (listed : Array Bool) (a : Act) (w : World), (∀ j, l[j]? = ops[k + j]?) → Region.rowFrom md ops l.length k listed = true →
    wpListIn F n P ops Q l a w → wpAnyIn F n P md ops Q l.length listed a w
  | [], k, listed, a, w, _, hB, h => ⟨by simpa [Region.rowFrom] using hB, h⟩
  | o :: l, k, listed, a, w, hl, hB, h => by
    have h0 : ops[k]? = some o := by simpa using (hl 0).symm
    simp only [List.length_cons, Region.rowFrom, Bool.and_eq_true, beq_iff_eq] at hB
    obtain ⟨hr, hB'⟩ := hB
    refine ⟨fun h => (by rw [hr] at h; cases h), fun i hi => ?_⟩
    rw [hr] at hi
    obtain rfl := List.mem_singleton.1 hi
    have h' : wpOpIn F n P ops Q i (wpListIn F n P ops Q l) a w := by
      unfold wpOpIn
      simp only [h0]
      exact h
    exact wpOpIn_mono (fun a' w' hh => wpAnyIn_row l (i + 1) _ a' w' (fun j => by have := hl (j + 1); simpa [Nat.add_assoc, Nat.add_comm 1 j] using this) hB' hh) h'

def Region.tailB (md : Region.Mode) (ops : Array Oper) (c : Nat) : Bool :=
  Region.noSelect ops && noDefer ops && Nat.ble c ops.size && Region.lexUpto md ops (if c < ops.size then [c] else []) (marksT md ops c) c 0 (Array.replicate ops.size false) && Region.rowFrom md ops (ops.size - c) c (listedBy c 0 (Array.replicate ops.size false))

/-- **one walk, in the text's order, serves every order** -/
theorem wpIn_region_tail {id : Nat} {Q : Exit → Act → World → Prop} {a : Act} {w : World} {l : List Oper} (c : Nat) (hm : P.follows .mixedOrders = true) (hB : Region.tailB .any l.toArray c = true)
    (h : wpQuietIn F n P l.toArray (fun w' => ∃ k, w' = w.drewN k) (fun a' => ∀ w', (∃ k, w' = w.drewN k) → wpListIn F n P l.toArray Q (l.drop c) a' w') (l.take c) a) : (Code.region id l.toArray true).wpIn F n P Q a w := by
  simp only [Region.tailB, Bool.and_eq_true, Nat.ble_eq] at hB
  obtain ⟨⟨⟨⟨hs, hnd⟩, hle⟩, hL⟩, hR⟩ := hB
  have hle' : c ≤ l.length := by simpa using hle
  have hsz : l.toArray.size = (l.take c).length + (l.drop c).length := by simp; omega
  have hl1 : (l.take c).length = c := by simp; omega
  have hl2 : (l.drop c).length = l.toArray.size - c := by simp
  refine wpIn_region_any hm (wpAnyIn_of_T (C := fun w' => ∃ k, w' = w.drewN k) (cs := if c < l.toArray.size then [c] else []) (Q := fun r listed a' => r = (l.drop c).length ∧ listed = listedBy c 0 (Array.replicate l.toArray.size false) ∧ ∀ w', (∃ k, w' = w.drewN k) → wpListIn F n P l.toArray Q (l.drop c) a' w') hnd ?_ _ _ _ _ ⟨1, rfl⟩ ?_)
  · rintro r listed a' w' hC ⟨rfl, rfl, hh⟩
    refine wpAnyIn_row (l.drop c) c _ a' w' (fun j => by simp) (by rw [hl2]; exact hR) (hh w' hC)
  · have hq := wpAnyT_lex (F := F) (n := n) (P := P) (C := fun w' => ∃ k, w' = w.drewN k) (md := .any) (c := c) (cs := if c < l.toArray.size then [c] else []) (fun x hx => by split at hx; exact List.mem_singleton.1 hx; cases hx)
      (Q := fun r listed a' => r = (l.drop c).length ∧ listed = listedBy c 0 (Array.replicate l.toArray.size false) ∧ ∀ w', (∃ k, w' = w.drewN k) → wpListIn F n P l.toArray Q (l.drop c) a' w') hs (l.drop c).length (l.take c) 0 (Array.replicate l.toArray.size false) a
      (fun j hj => by rw [hl1] at hj; rw [List.getElem?_take_of_lt hj, Nat.zero_add, List.getElem?_toArray]) (by omega) DownC.start (by rw [hl1]; exact hL) (by
        rw [hl1]
        refine wpQuietIn_mono' ?_ _ _ h
        exact fun a' hh => ⟨rfl, rfl, hh⟩)
    rw [← hsz] at hq
    exact hq
/-- the same, what stands behind hidden while the reading operations are walked -/
theorem wpIn_region_tail' {id : Nat} {Q : Exit → Act → World → Prop} {a : Act} {w : World} {l : List Oper} (c : Nat) (hm : P.follows .mixedOrders = true) (hB : Region.tailB .any l.toArray c = true)
    (h : ∀ X : Act → Prop, (∀ a', (∀ k, wpListIn F n P l.toArray Q (l.drop c) a' (w.drewN k)) → X a') → wpQuietIn F n P l.toArray (fun w' => ∃ k, w' = w.drewN k) X (l.take c) a) : (Code.region id l.toArray true).wpIn F n P Q a w :=
  wpIn_region_tail c hm hB (h _ fun a' ha w' ⟨k, hk⟩ => by rw [hk]; exact ha k)
end
end Go.Proofs.Ytoglgeaiiipchaa

namespace Go.Proofs.Ytoglgeaiiipchaa
open Go

/-- an append whose run is known, in a region that draws -/
theorem step_appR {P : Program} {w w' : World} {ops : Array Oper} {o : Oper} {a : Act} {K : Act → World → Prop} {Q : Exit → Act → World → Prop} {E : Prop} (hgd : o.guard = none) (s x : Operand) (t tn : TypeId)
    (ho : o.op = .call { callee := .builtin .append, args := #[s, x], argTypes := #[t, tn] }) (v u r : Value) (hs : a.eval s = v) (hx : a.eval x = u)
    (hrun : (Builtin.append_ #[t, tn] o.type #[v, u]).run P w = .ok r w') (h : K (a.put o.dst r) w') :
    if Region.wanted o (yielded ops a.tmps) = true then Oper.wp P o a w K Q else E := by
  have hw : Region.wanted o (yielded ops a.tmps) = true := by simp [Region.wanted, hgd]
  rw [if_pos hw]
  unfold Oper.wp execOp
  simp only [ho, resolve, invoke, builtin, Sem.run_bind, Sem.run_pure, Result.andThen_ok, List.map_toArray, List.map_cons, List.map_nil, hs, hx, hrun]
  exact h
section
variable {P : Program} {ops : Array Oper} {Q : Exit → Act → World → Prop} {md : Region.Mode} {S : World → Prop} {z : Nat}
/-- whatever order is picked from here on, S holds behind every operation but z -/
def wpAnyZ (P : Program) (md : Region.Mode) (ops : Array Oper) (Q : Exit → Act → World → Prop) (S : World → Prop) (z : Nat) : Nat → Array Bool → Act → World → Prop
  | 0, listed, a, w => Region.ready md ops listed = [] ∧ Q .normal a w
  | fuel + 1, listed, a, w => (Region.ready md ops listed = [] → Q .normal a w) ∧
    ∀ i ∈ Region.ready md ops listed, wpOp P ops Q i (fun a' w' => (i = z ∨ S w') ∧ wpAnyZ P md ops Q S z fuel (listed.setIfInBounds i true) a' w') a w
theorem wpAny_of_Z : ∀ (fuel : Nat) (listed : Array Bool) (a : Act) (w : World), wpAnyZ P md ops Q S z fuel listed a w → wpAny P md ops Q fuel listed a w
  | 0, _, _, _, h => h
  | fuel + 1, _, _, _, h => ⟨h.1, fun i hi => wpOp_mono (fun a' w' h' => wpAny_of_Z fuel _ a' w' h'.2) (h.2 i hi)⟩
/-- of what is listed, all that it waits for is -/
def ClosedL (md : Region.Mode) (ops : Array Oper) (listed : Array Bool) : Prop :=
  ∀ j oj, ops[j]? = some oj → listed.getD j false = true → ∀ e ∈ oj.after, Region.binds md e = true → listed.getD e.on false = true
theorem getD_set_up {listed : Array Bool} {i k : Nat} (h : listed.getD k false = true) : (listed.setIfInBounds i true).getD k false = true := by
  by_cases hik : i = k
  · subst hik
    rcases Nat.lt_or_ge i listed.size with h1 | h1
    · simp [h1]
    · simp [Array.getElem?_eq_none h1] at h
  · rw [getD_set_ne false hik]; exact h
theorem ClosedL.set {listed : Array Bool} {i : Nat} (h : ClosedL md ops listed) (hi : i ∈ Region.ready md ops listed) : ClosedL md ops (listed.setIfInBounds i true) := by
  obtain ⟨_, oi, hoi, hall⟩ := mem_ready.1 hi
  intro j oj hoj hl e he hb
  by_cases hij : i = j
  · subst hij
    have : oj = oi := Option.some.inj (hoj.symm.trans hoi)
    subst this
    exact getD_set_up (hall e he hb)
  · rw [getD_set_ne false hij] at hl
    exact getD_set_up (h j oj hoj hl e he hb)
def closedB (md : Region.Mode) (ops : Array Oper) (listed : Array Bool) : Bool :=
  (List.range ops.size).all fun j => match ops[j]? with
    | some o => !(listed.getD j false) || o.after.all fun e => !(Region.binds md e) || listed.getD e.on false
    | none => true
theorem closedB_spec {listed : Array Bool} (h : closedB md ops listed = true) : ClosedL md ops listed := by
  intro j oj hoj hl e he hb
  have hj : j < ops.size := (Array.getElem?_eq_some_iff.1 hoj).1
  have h1 := List.all_eq_true.1 h j (List.mem_range.2 hj)
  rw [hoj] at h1
  simp only [hl, Bool.not_true, Bool.false_or, Array.all_eq_true'] at h1
  have h2 := h1 e he
  rw [hb] at h2
  simpa using h2
/-- does operation j hang on i? -/
def hangsB (md : Region.Mode) (ops : Array Oper) (i : Nat) : Nat → Nat → Bool
  | 0, _ => false
  | n + 1, j => match ops[j]? with
    | some o => o.after.any fun e => Region.binds md e && (e.on == i || hangsB md ops i n e.on)
    | none => false
theorem hangs_listed {listed : Array Bool} {i : Nat} (hc : ClosedL md ops listed) : ∀ (n j : Nat), hangsB md ops i n j = true → (∀ oj, ops[j]? = some oj → ∀ e ∈ oj.after, Region.binds md e = true → listed.getD e.on false = true) → listed.getD i false = true
  | 0, _, h, _ => by cases h
  | n + 1, j, h, hj => by
    unfold hangsB at h
    cases ho : ops[j]? with
    | none => rw [ho] at h; cases h
    | some o =>
      rw [ho] at h
      obtain ⟨e, he, h2⟩ := Array.any_eq_true'.1 h
      simp only [Bool.and_eq_true, Bool.or_eq_true, beq_iff_eq] at h2
      have hl := hj o ho e he h2.1
      rcases h2.2 with h3 | h3
      · rw [← h3]; exact hl
      · exact hangs_listed hc n e.on h3 fun oj hoj e' he' hb' => hc e.on oj hoj hl e' he' hb'
theorem ready_unlisted {listed : Array Bool} {i : Nat} (hr : i ∈ Region.ready md ops listed) : listed.getD i false = false := by
  have h0 := (mem_ready.1 hr).1
  rcases Nat.lt_or_ge i listed.size with h' | h'
  · simp [h'] at h0 ⊢; exact h0
  · simp [Array.getElem?_eq_none h']
theorem wpAnyZ_first {i : Nat} {oi : Oper} {v : Value} (hi : ops[i]? = some oi) (hsel : ∀ (j : Nat) (o : Oper) cs b, ops[j]? = some o → o.op ≠ .select cs b)
    (hQ : ∀ c a w, Q (.panic c) (a.put oi.dst v) w → Q (.panic c) a w) (n : Nat) (hz : hangsB md ops i n z = true) :
    ∀ (fuel : Nat) (listed : Array Bool) (a : Act) (w : World), ClosedL md ops listed →
      (∀ j oj, ops[j]? = some oj → j ≠ i → listed.getD j true = false → (∀ e ∈ oj.after, Region.binds md e = true → e.on ≠ i) → oi.apart ops oj = true) →
      i ∈ Region.ready md ops listed → YieldsIf P ops S oi v a → S w →
      wpAnyZ P md ops Q S z fuel (listed.setIfInBounds i true) (a.put oi.dst v) w → wpAnyZ P md ops Q S z (fuel + 1) listed a w := by
  intro fuel
  induction fuel with
  | zero =>
    intro listed a w _ _ hr hy hS H
    refine ⟨fun h => (by rw [h] at hr; cases hr), fun j hj => ?_⟩
    by_cases hji : j = i
    · subst hji; exact hy.wpOp hi hS ⟨.inr hS, H⟩
    · have := ready_mono hj hji
      rw [H.1] at this
      cases this
  | succ fuel ih =>
    intro listed a w hcl hfree hr hy hS H
    refine ⟨fun h => (by rw [h] at hr; cases hr), fun j hj => ?_⟩
    by_cases hji : j = i
    · subst hji; exact hy.wpOp hi hS ⟨.inr hS, H⟩
    · have h1 := H.2 j (ready_mono hj hji)
      obtain ⟨hjun, oj, hoj, hall⟩ := mem_ready.1 hj
      have hjz : j ≠ z := by
        rintro rfl
        have := hangs_listed hcl n j hz fun oj' hoj' => by
          obtain rfl : oj' = oj := Option.some.inj (hoj'.symm.trans hoj)
          exact hall
        rw [ready_unlisted hr] at this
        cases this
      have hnot : ∀ e ∈ oj.after, Region.binds md e = true → e.on ≠ i := fun e he hb heq => by
        have h1 := hall e he hb
        rw [heq, ready_unlisted hr] at h1
        cases h1
      have h2 := wpOp_putIf hoj (hfree j oj hoj hji hjun hnot) (fun cs b => hsel i oi cs b hi) (fun cs b => hsel j oj cs b hoj) hQ hy h1
      have hfree' : ∀ k ok, ops[k]? = some ok → k ≠ i → (listed.setIfInBounds j true).getD k true = false →
          (∀ e ∈ ok.after, Region.binds md e = true → e.on ≠ i) → oi.apart ops ok = true := fun k ok hk hki hun hno => by
        refine hfree k ok hk hki ?_ hno
        by_cases hjk : j = k
        · subst hjk; exact hjun
        · rw [getD_set_ne true hjk] at hun; exact hun
      refine wpOp_mono (fun a' w' h3 => ⟨h3.2.1, ih (listed.setIfInBounds j true) a' w' (hcl.set hj) hfree' (ready_mono hr (Ne.symm hji)) h3.1 (h3.2.1.resolve_left hjz) ?_⟩) h2
      rw [Array.setIfInBounds_comm _ _ hji]
      exact h3.2.2
theorem get_of_dropZ {l : List Oper} {i : Nat} {o : Oper} {rest : List Oper} (h : l.drop i = o :: rest) : l.toArray[i]? = some o := by
  have := congrArg (fun m : List Oper => m[0]?) h
  simpa using this
theorem wpAnyZ_take {l rest : List Oper} {i : Nat} {oi : Oper} {v : Value} {fuel : Nat} {listed : Array Bool} {a : Act} {w : World} (hi : l.drop i = oi :: rest)
    (hs : Region.noSelect l.toArray = true) (hf : Region.free md l.toArray listed i = true) (hr : (Region.ready md l.toArray listed).contains i = true) (hc : closedB md l.toArray listed = true) (hz : hangsB md l.toArray i l.length z = true)
    (hQ : ∀ c a w, Q (.panic c) (a.put oi.dst v) w → Q (.panic c) a w) (hy : YieldsIf P l.toArray S oi v a) (hS : S w)
    (h : wpAnyZ P md l.toArray Q S z fuel (listed.setIfInBounds i true) (a.put oi.dst v) w) : wpAnyZ P md l.toArray Q S z (fuel + 1) listed a w :=
  wpAnyZ_first (get_of_dropZ hi) (Region.noSelect_spec hs) hQ l.length hz fuel listed a w (closedB_spec hc) (Region.free_spec (get_of_dropZ hi) hf) (by simpa using hr) hy hS h
/-- one alone may come up -/
theorem wpAnyZ_one {l rest : List Oper} {i : Nat} {o : Oper} {fuel : Nat} {listed : Array Bool} {a : Act} {w : World} (hi : l.drop i = o :: rest) (hr : Region.ready md l.toArray listed = [i])
    (h : ∀ K' : Act → World → Prop, Shut (∀ a w, (i = z ∨ S w) → wpAnyZ P md l.toArray Q S z fuel (listed.setIfInBounds i true) a w → K' a w) → if Region.wanted o (yielded l.toArray a.tmps) = true then Oper.wp P o a w K' Q else K' (a.put o.dst undef) w) :
    wpAnyZ P md l.toArray Q S z (fuel + 1) listed a w := by
  refine ⟨fun h0 => by rw [hr] at h0; simp at h0, fun j hj => ?_⟩
  rw [hr] at hj
  obtain rfl := List.mem_singleton.1 hj
  exact wpOp_step (get_of_dropZ hi) (fun K' hK => h K' (fun a w hS hW => hK a w ⟨hS, hW⟩))
theorem wpAnyZ_done {listed : Array Bool} {a : Act} {w : World} (hr : Region.ready md ops listed = []) (h : Q .normal a w) : ∀ fuel, wpAnyZ P md ops Q S z fuel listed a w
  | 0 => ⟨hr, h⟩
  | _ + 1 => ⟨fun _ => h, by rw [hr]; simp⟩
theorem wp_region_Z {id : Nat} {a : Act} {w : World} (S : World → Prop) (z : Nat) (hm : P.follows .mixedOrders = true)
    (h : wpAnyZ P .any ops Q S z ops.size (Array.replicate ops.size false) a w.drew) : (Code.region id ops true).wp P Q a w :=
  wp_region_any hm (wpAny_of_Z _ _ _ _ h)
end
end Go.Proofs.Ytoglgeaiiipchaa
