/- A region that draws its order, whose calls hand back memory of their own: each operation is run once, out of what it hangs on, in whatever world. -/
import Derived.Test.YtoglgeaiiipchaaLBTM1
import Derived.Deep.RegionHeld3
set_option linter.unusedSimpArgs false
set_option linter.unusedVariables false
namespace Go.Proofs.Ytoglgeaiiipchaa
open Go Go.RowKit

/-- the values of some operations laid down, in the text's order -/
def putAll (ops : Array Oper) (vs : Nat → Value) : List Nat → Act → Act
  | [], a => a
  | i :: l, a => putAll ops vs l (a.put ((ops[i]?).bind (·.dst)) (vs i))
def updV (vs : Nat → Value) (i : Nat) (v : Value) : Nat → Value := fun j => if j = i then v else vs j
/-- what an operation waits for -/
def waitsFor (md : Region.Mode) (ops : Array Oper) (i : Nat) : List Nat := match ops[i]? with | some o => (o.after.toList.filter fun e => Region.binds md e).map (·.on) | none => []
/-- all that must have been done ahead of an operation -/
def waitsT (md : Region.Mode) (ops : Array Oper) (todo : List Nat) : Nat → Nat → List Nat
  | 0, _ => []
  | n + 1, i => (waitsFor md ops i).filter (fun j => todo.contains j) ++ ((waitsFor md ops i).filter fun j => todo.contains j).flatMap (waitsT md ops todo n)
def dstOf (ops : Array Oper) (i : Nat) : Option Tmp := (ops[i]?).bind (·.dst)
def looksOf (ops : Array Oper) (i : Nat) : List Tmp := match ops[i]? with | some o => o.looksAt ops | none => []
/-- does i look at what j lays down? -/
def looksB (ops : Array Oper) (i j : Nat) : Bool := match dstOf ops j with | some d => (looksOf ops i).contains d | none => false
def sameDst (ops : Array Oper) (i j : Nat) : Bool := match dstOf ops j with | some d => dstOf ops i == some d | none => false
/-- each of 'todo' waits but for what is listed or stands ahead of it, and looks but at what it waits for -/
def freeFrom (md : Region.Mode) (ops : Array Oper) (listed : Array Bool) : List Nat → List Nat → Bool
  | _, [] => true
  | seen, i :: l => ((waitsFor md ops i).all fun j => listed.getD j false || seen.contains j) && !seen.contains i &&
      (seen.all fun j => !looksB ops i j || (waitsFor md ops i).contains j) && (seen.all fun j => !looksB ops j i && !sameDst ops i j && !sameDst ops j i) && !looksB ops i i && freeFrom md ops listed (seen ++ [i]) l
def freeB (md : Region.Mode) (ops : Array Oper) (listed : Array Bool) (todo : List Nat) : Bool :=
  Region.noSelect ops && (listed.size == ops.size) && ((List.range ops.size).all fun i => listed.getD i false || todo.contains i) && (todo.all fun i => decide (i < ops.size) && !listed.getD i true) && freeFrom md ops listed [] todo

section
variable {P : Program} {ops : Array Oper} {md : Region.Mode} {Q : Exit → Act → World → Prop} {S : World → Prop}
/-- what is asked of one operation, at the frame where all ahead of it have been laid down -/
def StepF (P : Program) (ops : Array Oper) (md : Region.Mode) (Q : Exit → Act → World → Prop) (S : World → Prop) (G : Nat → World → World → Prop) (R : Nat → (Nat → Value) → World → Prop) (todo : List Nat) (vs : Nat → Value) (i : Nat) (o : Oper) (a : Act) : Prop :=
  ∀ w, S w → (∀ j, j ∈ todo → j ∈ waitsFor md ops i → R j vs w) → ∀ K : Act → World → Prop, (∀ v w', S w' → G i w w' → R i (updV vs i v) w' → K (a.put o.dst v) w') →
    if Region.wanted o (yielded ops a.tmps) = true then o.wp P a w K (NoPanic Q) else K (a.put o.dst undef) w
theorem putAll_append (vs : Nat → Value) : ∀ (l m : List Nat) (a : Act), putAll ops vs (l ++ m) a = putAll ops vs m (putAll ops vs l a)
  | [], _, _ => rfl
  | i :: l, m, a => putAll_append vs l m _
theorem putAll_put (vs : Nat → Value) {d : Option Tmp} {v : Value} : ∀ (l : List Nat) (a : Act), (∀ j ∈ l, ∀ t, d = some t → dstOf ops j ≠ some t) → putAll ops vs l (a.put d v) = (putAll ops vs l a).put d v
  | [], _, _ => rfl
  | i :: l, a, h => by
    unfold putAll
    rw [Act.put_comm a (x := d) (y := (ops[i]?).bind (·.dst)) v (vs i) (fun t ht => h i (by simp) t ht)]
    exact putAll_put vs l _ (fun j hj => h j (List.mem_cons_of_mem _ hj))
theorem putAll_congr {vs vs' : Nat → Value} : ∀ (l : List Nat) (a : Act), (∀ j ∈ l, vs j = vs' j) → putAll ops vs l a = putAll ops vs' l a
  | [], _, _ => rfl
  | i :: l, a, h => by
    unfold putAll
    rw [h i (by simp)]
    exact putAll_congr l _ (fun j hj => h j (List.mem_cons_of_mem _ hj))
theorem putAll_size (vs : Nat → Value) : ∀ (l : List Nat) (a : Act), (putAll ops vs l a).tmps.size = a.tmps.size ∧ (putAll ops vs l a).defers = a.defers
  | [], _ => ⟨rfl, rfl⟩
  | i :: l, a => by
    unfold putAll
    have := putAll_size vs l (a.put ((ops[i]?).bind (·.dst)) (vs i))
    rw [this.1, this.2]
    unfold Act.put
    split <;> simp
/-- what is not looked at makes no difference -/
theorem exec_drop {o : Oper} (hs : ∀ cs b, o.op ≠ .select cs b) (vs : Nat → Value) (p : Nat → Bool) : ∀ (l : List Nat) (a : Act),
    (∀ j ∈ l, p j = false → ∀ t, dstOf ops j = some t → t ∉ o.looksAt ops) → (∀ j ∈ l, p j = false → ∀ k ∈ l, k ≠ j → ∀ t, dstOf ops j = some t → dstOf ops k ≠ some t) → l.Nodup →
    execOp (putAll ops vs l a).eval o = execOp (putAll ops vs (l.filter p) a).eval o ∧ Region.wanted o (yielded ops (putAll ops vs l a).tmps) = Region.wanted o (yielded ops (putAll ops vs (l.filter p) a).tmps)
  | [], _, _, _, _ => ⟨rfl, rfl⟩
  | i :: l, a, h1, h2, hn => by
    have hn' := List.nodup_cons.1 hn
    have ih := fun a => exec_drop hs vs p l a (fun j hj => h1 j (List.mem_cons_of_mem _ hj)) (fun j hj hp k hk => h2 j (List.mem_cons_of_mem _ hj) hp k (List.mem_cons_of_mem _ hk)) hn'.2
    by_cases hp : p i = true
    · rw [List.filter_cons, if_pos hp]
      exact ih _
    · have hp' : p i = false := by simpa using hp
      rw [List.filter_cons, if_neg hp]
      have e : putAll ops vs (i :: l) a = (putAll ops vs l a).put (dstOf ops i) (vs i) := by
        show putAll ops vs l (a.put (dstOf ops i) (vs i)) = _
        exact putAll_put vs l a (fun j hj t ht => h2 i (by simp) hp' j (List.mem_cons_of_mem _ hj) (fun he => hn'.1 (he ▸ hj)) t ht)
      rw [e, execOp_put o hs _ _ _ (h1 i (by simp) hp'), wanted_put o _ _ _ (h1 i (by simp) hp')]
      exact ih a
theorem looksB_false {i j : Nat} {o : Oper} (ho : ops[i]? = some o) (h : looksB ops i j = false) : ∀ t, dstOf ops j = some t → t ∉ o.looksAt ops := by
  intro t ht
  unfold looksB looksOf at h
  rw [ht, ho] at h
  simpa using h
theorem sameDst_false {i j : Nat} (h : sameDst ops i j = false) : ∀ t, dstOf ops j = some t → dstOf ops i ≠ some t := by
  intro t ht
  unfold sameDst at h
  rw [ht] at h
  simpa using h
/-- what the Bool says -/
structure Free (md : Region.Mode) (ops : Array Oper) (listed : Array Bool) (todo : List Nat) : Prop where
  nosel : Region.noSelect ops = true
  size : listed.size = ops.size
  all : ∀ i, i < ops.size → listed.getD i false = true ∨ i ∈ todo
  lt : ∀ i ∈ todo, i < ops.size ∧ listed.getD i true = false
  wait : ∀ l i r, todo = l ++ i :: r → (∀ j ∈ waitsFor md ops i, listed.getD j false = true ∨ j ∈ l) ∧ (∀ j ∈ l, looksB ops i j = true → j ∈ waitsFor md ops i) ∧ (∀ j ∈ l, looksB ops j i = false ∧ sameDst ops i j = false ∧ sameDst ops j i = false) ∧ looksB ops i i = false
  nodup : todo.Nodup
theorem freeFrom_spec {listed : Array Bool} : ∀ (todo seen : List Nat), freeFrom md ops listed seen todo = true → (∀ l i r, todo = l ++ i :: r → (∀ j ∈ waitsFor md ops i, listed.getD j false = true ∨ j ∈ seen ++ l) ∧ (∀ j ∈ seen ++ l, looksB ops i j = true → j ∈ waitsFor md ops i) ∧ (∀ j ∈ seen ++ l, looksB ops j i = false ∧ sameDst ops i j = false ∧ sameDst ops j i = false) ∧ looksB ops i i = false) ∧ todo.Nodup ∧ ∀ i ∈ todo, i ∉ seen
  | [], seen, _ => ⟨fun l i r h => by simp at h, .nil, fun i h => by simp at h⟩
  | k :: todo, seen, h => by
    unfold freeFrom at h
    simp only [Bool.and_eq_true, List.all_eq_true, Bool.or_eq_true, List.contains_iff_mem, Bool.not_eq_true', Bool.not_eq_eq_eq_not, Bool.not_true] at h
    obtain ⟨⟨⟨⟨⟨h1, h2⟩, h3⟩, h4⟩, h5⟩, h6⟩ := h
    have h2 : k ∉ seen := by simpa using h2
    obtain ⟨i1, i2, i3⟩ := freeFrom_spec todo (seen ++ [k]) h6
    refine ⟨fun l i r he => ?_, List.nodup_cons.2 ⟨fun hm => i3 k hm (by simp), i2⟩, fun i hi => ?_⟩
    · cases l with
      | nil =>
        simp only [List.nil_append, List.cons.injEq] at he
        obtain ⟨rfl, rfl⟩ := he
        rw [List.append_nil]
        exact ⟨h1, fun j hj hl => (h3 j hj).resolve_left (by simp [hl]), fun j hj => ⟨(h4 j hj).1.1, (h4 j hj).1.2, (h4 j hj).2⟩, h5⟩
      | cons q l =>
        simp only [List.cons_append, List.cons.injEq] at he
        obtain ⟨rfl, rfl⟩ := he
        have := i1 l i r rfl
        simpa only [List.append_assoc, List.singleton_append] using this
    · rcases List.mem_cons.1 hi with rfl | hi
      · exact h2
      · exact fun hs => i3 i hi (List.mem_append_left _ hs)
theorem free_spec {listed : Array Bool} {todo : List Nat} (h : freeB md ops listed todo = true) : Free md ops listed todo := by
  unfold freeB at h
  simp only [Bool.and_eq_true, List.all_eq_true, Bool.or_eq_true, List.contains_iff_mem, beq_iff_eq, List.mem_range, decide_eq_true_eq, Bool.not_eq_true', Bool.not_eq_eq_eq_not, Bool.not_true] at h
  obtain ⟨⟨⟨⟨h1, h2⟩, h3⟩, h4⟩, h5⟩ := h
  obtain ⟨i1, i2, _⟩ := freeFrom_spec _ _ h5
  exact ⟨h1, h2, h3, h4, fun l i r he => by simpa using i1 l i r he, i2⟩
/-- all steps, in the text's order -/
def StepsF (P : Program) (ops : Array Oper) (md : Region.Mode) (Q : Exit → Act → World → Prop) (S : World → Prop) (G : Nat → World → World → Prop) (R : Nat → (Nat → Value) → World → Prop) (todo : List Nat) (vs : Nat → Value) : List Nat → Act → Prop
  | [], a => ∀ w, S w → (∀ i ∈ todo, R i vs w) → Q .normal a w
  | i :: l, a => (∀ o, ops[i]? = some o → StepF P ops md Q S G R todo vs i o a) ∧ StepsF P ops md Q S G R todo vs l (a.put (dstOf ops i) (vs i))
theorem StepsF.cons {G : Nat → World → World → Prop} {R : Nat → (Nat → Value) → World → Prop} {todo : List Nat} {vs : Nat → Value} {i : Nat} {l : List Nat} {a : Act} {o : Oper} (ho : ops[i]? = some o)
    (h : ∀ w, S w → (∀ j, todo.contains j = true → (waitsFor md ops i).contains j = true → R j vs w) → ∀ K : Act → World → Prop, Shut (∀ v w', S w' → G i w w' → R i (updV vs i v) w' → K (a.put o.dst v) w') →
      if Region.wanted o (yielded ops a.tmps) = true then o.wp P a w K (NoPanic Q) else K (a.put o.dst undef) w)
    (hr : StepsF P ops md Q S G R todo vs l (a.put o.dst (vs i))) : StepsF P ops md Q S G R todo vs (i :: l) a :=
  ⟨fun o' ho' => by
    rw [ho] at ho'
    obtain rfl := Option.some.inj ho'
    exact fun w hS hd K hK => h w hS (fun j h1 h2 => hd j (by simpa using h1) (by simpa using h2)) K hK, by
    have e : dstOf ops i = o.dst := by unfold dstOf; rw [ho]; rfl
    rw [e]; exact hr⟩
theorem StepsF.at {G : Nat → World → World → Prop} {R : Nat → (Nat → Value) → World → Prop} {todo : List Nat} {vs : Nat → Value} : ∀ {l : List Nat} {i : Nat} {r : List Nat} {a : Act}, StepsF P ops md Q S G R todo vs (l ++ i :: r) a → ∀ o, ops[i]? = some o → StepF P ops md Q S G R todo vs i o (putAll ops vs l a)
  | [], _, _, _, h => h.1
  | _ :: l, _, _, _, h => StepsF.at (l := l) h.2
theorem StepsF.last {G : Nat → World → World → Prop} {R : Nat → (Nat → Value) → World → Prop} {todo : List Nat} {vs : Nat → Value} : ∀ {l : List Nat} {a : Act}, StepsF P ops md Q S G R todo vs l a → ∀ w, S w → (∀ i ∈ todo, R i vs w) → Q .normal (putAll ops vs l a) w
  | [], _, h => h
  | _ :: l, _, h => StepsF.last (l := l) h.2
theorem put_other {a b : Act} {d : Option Tmp} {v v' : Value} (hsz : a.tmps.size = b.tmps.size) (h : a.put d v = a.put d v') : b.put d v = b.put d v' := by
  cases d with
  | none => rfl
  | some d =>
    simp only [Act.put] at h ⊢
    have h1 := congrArg Act.tmps h
    simp only at h1
    by_cases hd : d < b.tmps.size
    · have hd' : d < a.tmps.size := by rw [hsz]; exact hd
      have := congrArg (fun t : Array Value => t[d]?) h1
      simp [hd'] at this
      rw [this]
    · have e : ∀ u, b.tmps.setIfInBounds d u = b.tmps := fun u => by simp [Array.setIfInBounds, hd]
      rw [e, e]
/-- an operation run at another frame that reads alike -/
theorem wp_same {o : Oper} {a b : Act} {w : World} {Z : Value → World → Prop} {K : Act → World → Prop} (he : execOp b.eval o = execOp a.eval o) (hsz : a.tmps.size = b.tmps.size) (hK : ∀ v w', Z v w' → K (b.put o.dst v) w')
    (h : o.wp P a w (fun a' w' => ∃ v, a' = a.put o.dst v ∧ Z v w') (NoPanic Q)) : o.wp P b w K Q := by
  unfold Oper.wp at *
  rw [he]
  generalize (execOp a.eval o).run P w = r at *
  have go : ∀ v w', (∃ v', a.put o.dst v = a.put o.dst v' ∧ Z v' w') → K (b.put o.dst v) w' := fun v w' ⟨v', e, hz⟩ => by
    rw [put_other hsz e]; exact hK v' w' hz
  cases r with
  | ok n w' =>
    cases n <;> simp only [Oper.upon] at h ⊢
    case value v => exact go v w' h
    case skip => exact go _ w' h
    case defer d =>
      obtain ⟨v, e, _⟩ := h
      exfalso
      have h1 := congrArg Act.defers e
      have dput : ∀ (a : Act) (d : Option Tmp) (v : Value), (a.put d v).defers = a.defers := fun a d v => by cases d <;> rfl
      rw [dput, dput] at h1
      have := congrArg List.length h1
      simp at this
    case enter f args =>
      refine h.mono fun e w'' he => ?_
      cases e with
      | returned v => exact go v w'' he
      | panicked c => exact (he : False).elim
      | outgrown => exact he
    case row r args =>
      exact h.mono fun v w'' hv => go v w'' hv
  | halt x w' =>
    cases x <;> simp only [Oper.upon] at h ⊢
    case panic v => exact (h : False).elim
/-- **each operation is run once, out of what it hangs on, in whatever world: that serves every order** -/
theorem wpAnyH_free {G : Nat → World → World → Prop} (R : Nat → (Nat → Value) → World → Prop) (todo : List Nat) {fuel : Nat} {listed : Array Bool} {a : Act} {w : World}
    (hB : freeB md ops listed todo = true) (hfuel : todo.length ≤ fuel)
    (hRc : ∀ j ∈ todo, ∀ vs vs' w, vs j = vs' j → (∀ k ∈ todo, k ∈ waitsFor md ops j → vs k = vs' k) → R j vs w → R j vs' w) (hRg : ∀ j ∈ todo, ∀ i ∈ todo, i ≠ j → i ∉ waitsT md ops todo todo.length j → ∀ vs w w', G i w w' → R j vs w → R j vs w')
    (hS : S w) (h : ∀ vs, StepsF P ops md Q S G R todo vs todo a) : wpAnyH P md ops Q S fuel listed a w := by
  have hF := free_spec hB
  have hsel := fun i o (ho : ops[i]? = some o) (cs : Array SelectCase) (b : Bool) => Region.noSelect_spec hF.nosel i o cs b ho
  -- todo's places
  have split : ∀ i ∈ todo, ∃ l r, todo = l ++ i :: r := fun i hi => List.append_of_mem hi
  have dist : ∀ j ∈ todo, ∀ k ∈ todo, k ≠ j → ∀ t, dstOf ops j = some t → dstOf ops k ≠ some t := by
    intro j hj k hk hne t ht
    obtain ⟨l, r, e⟩ := split j hj
    rw [e] at hk
    rcases List.mem_append.1 hk with hk | hk
    · exact sameDst_false ((hF.wait l j r e).2.2.1 k hk).2.2 t ht
    · rcases List.mem_cons.1 hk with rfl | hk
      · exact absurd rfl hne
      · obtain ⟨l2, r2, e2⟩ := List.append_of_mem hk
        have e3 : todo = (l ++ j :: l2) ++ k :: r2 := by rw [e, e2]; simp
        exact sameDst_false ((hF.wait _ k r2 e3).2.2.1 j (by simp)).2.1 t ht
  suffices H : ∀ fuel (L : Array Bool) (vs : Nat → Value) (w : World), L.size = ops.size → (∀ i, listed.getD i false = true → L.getD i false = true) →
      (todo.filter fun i => !L.getD i false).length ≤ fuel → S w → (∀ i ∈ todo, L.getD i false = true → R i vs w) → (∀ j ∈ todo, L.getD j false = true → ∀ k ∈ waitsFor md ops j, L.getD k false = true) → wpAnyH P md ops Q S fuel L (putAll ops vs (todo.filter fun i => L.getD i false) a) w by
    have lf : ∀ i ∈ todo, listed.getD i false = false := fun i hi => by
      have h1 := (hF.lt i hi).2
      have h2 := (hF.lt i hi).1
      rw [← hF.size] at h2
      simp [h2] at h1 ⊢
      exact h1
    have e : todo.filter (fun i => listed.getD i false) = [] := by
      rw [List.filter_eq_nil_iff]
      intro i hi
      rw [lf i hi]; simp
    have := H fuel listed (fun _ => undef) w hF.size (fun i hi => hi) (Nat.le_trans (List.length_filter_le _ _) hfuel) hS (fun i hi hl => by rw [lf i hi] at hl; cases hl) (fun i hi hl => by rw [lf i hi] at hl; cases hl)
    rwa [e] at this
  -- nothing left: all are listed
  have done : ∀ (L : Array Bool), L.size = ops.size → (∀ i, listed.getD i false = true → L.getD i false = true) → Region.ready md ops L = [] → ∀ i ∈ todo, L.getD i false = true := by
    intro L hsz hL hr
    have key : ∀ (n : Nat) (l r : List Nat), l.length = n → todo = l ++ r → ∀ i ∈ l, L.getD i false = true := by
      intro n
      induction n with
      | zero => intro l r hl _ i hi; rw [List.eq_nil_of_length_eq_zero hl] at hi; simp at hi
      | succ n ih =>
        intro l r hl he
        rcases List.eq_nil_or_concat l with rfl | ⟨l', k, rfl⟩
        · simp at hl
        · rw [List.concat_eq_append] at hl he ⊢
          have ih' := ih l' (k :: r) (by simpa using hl) (by rw [he]; simp)
          intro i hi
          rcases List.mem_append.1 hi with hi | hi
          · exact ih' i hi
          · simp only [List.mem_singleton] at hi
            subst hi
            have e : todo = l' ++ i :: r := by rw [he]; simp
            have hw := (hF.wait l' i r e).1
            have hlt := (hF.lt i (by rw [e]; simp)).1
            cases hc : L.getD i false with
            | true => rfl
            | false =>
              exfalso
              obtain ⟨o, ho⟩ : ∃ o, ops[i]? = some o := ⟨ops[i], by simp [hlt]⟩
              have : i ∈ Region.ready md ops L := by
                rw [mem_ready]
                have hlt' : i < L.size := by omega
                refine ⟨by simp [hlt'] at hc ⊢; exact hc, o, ho, fun e he hb => ?_⟩
                have hm : e.on ∈ waitsFor md ops i := by
                  unfold waitsFor
                  rw [ho]
                  exact List.mem_map.2 ⟨e, List.mem_filter.2 ⟨by simpa using he, hb⟩, rfl⟩
                rcases hw _ hm with h1 | h1
                · exact hL _ h1
                · exact ih' _ h1
              rw [hr] at this
              cases this
    intro i hi
    exact key _ todo [] rfl (by simp) i hi
  have fin : ∀ (L : Array Bool) (vs : Nat → Value) (w : World), (∀ i ∈ todo, L.getD i false = true) → S w → (∀ i ∈ todo, L.getD i false = true → R i vs w) → Q .normal (putAll ops vs (todo.filter fun i => L.getD i false) a) w := by
    intro L vs w hall hS hR
    have e : todo.filter (fun i => L.getD i false) = todo := List.filter_eq_self.2 fun i hi => hall i hi
    rw [e]
    exact (h vs).last w hS fun i hi => hR i hi (hall i hi)
  have closed : ∀ (L : Array Bool), (∀ j ∈ todo, L.getD j false = true → ∀ k ∈ waitsFor md ops j, L.getD k false = true) → ∀ n, ∀ j ∈ todo, L.getD j false = true → ∀ k ∈ todo, k ∈ waitsT md ops todo n j → L.getD k false = true := by
    intro L hcl n
    induction n with
    | zero => intro j _ _ k _ hm; simp [waitsT] at hm
    | succ n ih =>
      intro j hj hl k hk hm
      unfold waitsT at hm
      rcases List.mem_append.1 hm with hm | hm
      · exact hcl j hj hl k (List.mem_filter.1 hm).1
      · obtain ⟨q, hq, hm⟩ := List.mem_flatMap.1 hm
        obtain ⟨hq1, hq2⟩ := List.mem_filter.1 hq
        exact ih q (by simpa using hq2) (hcl j hj hl q hq1) k hk hm
  intro fuel
  induction fuel with
  | zero =>
    intro L vs w hsz hL hf hS hR hcl
    have hall : ∀ i ∈ todo, L.getD i false = true := by
      intro i hi
      have e := List.eq_nil_of_length_eq_zero (Nat.le_zero.1 hf)
      rw [List.filter_eq_nil_iff] at e
      have := e i hi
      simpa using this
    refine ⟨?_, fin L vs w hall hS hR⟩
    cases hr : Region.ready md ops L with
    | nil => rfl
    | cons i is =>
      exfalso
      have hi : i ∈ Region.ready md ops L := by rw [hr]; simp
      obtain ⟨h0, o, ho, _⟩ := mem_ready.1 hi
      have hlt : i < ops.size := (Array.getElem?_eq_some_iff.1 ho).1
      have hlt' : i < L.size := by omega
      have h0' : L.getD i false = false := by simp [hlt'] at h0 ⊢; exact h0
      rcases hF.all i hlt with h1 | h1
      · rw [hL i h1] at h0'; cases h0'
      · rw [hall i h1] at h0'; cases h0'
  | succ fuel ih =>
    intro L vs w hsz hL hf hS hR hcl
    refine ⟨fun hr => fin L vs w (done L hsz hL hr) hS hR, fun i hi => ?_⟩
    obtain ⟨h0, o, ho, hwait⟩ := mem_ready.1 hi
    have hlt : i < ops.size := (Array.getElem?_eq_some_iff.1 ho).1
    have hlt' : i < L.size := by omega
    have h0' : L.getD i false = false := by simp [hlt'] at h0 ⊢; exact h0
    have htodo : i ∈ todo := by
      rcases hF.all i hlt with h1 | h1
      · rw [hL i h1] at h0'; cases h0'
      · exact h1
    obtain ⟨l, r, e⟩ := split i htodo
    have hl := hF.wait l i r e
    have hwl : ∀ j ∈ waitsFor md ops i, L.getD j false = true := by
      intro j hj
      unfold waitsFor at hj
      rw [ho] at hj
      obtain ⟨x, hx, rfl⟩ := List.mem_map.1 hj
      obtain ⟨hx1, hx2⟩ := List.mem_filter.1 hx
      exact hwait x (by simpa using hx1) hx2
    have hno : ∀ cs b, o.op ≠ .select cs b := hsel i o ho
    -- the frame reads as the one of the text's order
    have looks : ∀ j ∈ todo, looksB ops i j = true → j ∈ l ∧ L.getD j false = true := by
      intro j hj hlk
      rw [e] at hj
      rcases List.mem_append.1 hj with hj | hj
      · exact ⟨hj, hwl j (hl.2.1 j hj hlk)⟩
      · rcases List.mem_cons.1 hj with rfl | hj
        · rw [hl.2.2.2] at hlk; cases hlk
        · obtain ⟨l2, r2, e2⟩ := List.append_of_mem hj
          have e3 : todo = (l ++ i :: l2) ++ j :: r2 := by rw [e, e2]; simp
          have := ((hF.wait _ j r2 e3).2.2.1 i (by simp)).1
          rw [this] at hlk; cases hlk
    have d1 := exec_drop (ops := ops) hno vs (fun j => looksB ops i j) (todo.filter fun i => L.getD i false) a
      (fun j hj hp => looksB_false ho hp) (fun j hj hp k hk hne => dist j (List.mem_filter.1 hj).1 k (List.mem_filter.1 hk).1 hne) (hF.nodup.filter _)
    have d2 := exec_drop (ops := ops) hno vs (fun j => looksB ops i j) l a
      (fun j hj hp => looksB_false ho hp) (fun j hj hp k hk hne => dist j (by rw [e]; exact List.mem_append_left _ hj) k (by rw [e]; exact List.mem_append_left _ hk) hne)
      (by have := hF.nodup; rw [e] at this; exact (List.nodup_append.1 this).1)
    have ef : (todo.filter fun i => L.getD i false).filter (fun j => looksB ops i j) = l.filter fun j => looksB ops i j := by
      rw [List.filter_filter, e, List.filter_append]
      have e1 : List.filter (fun j => looksB ops i j && L.getD j false) (i :: r) = [] := by
        rw [List.filter_eq_nil_iff]
        intro j hj hc
        rw [Bool.and_eq_true] at hc
        have := (looks j (by rw [e]; exact List.mem_append_right _ hj) hc.1).1
        have nd := hF.nodup
        rw [e, List.nodup_append] at nd
        exact nd.2.2 j this j hj rfl
      rw [e1, List.append_nil]
      refine List.filter_congr fun j hj => ?_
      cases hlk : looksB ops i j with
      | false => rfl
      | true => rw [(looks j (by rw [e]; exact List.mem_append_left _ hj) hlk).2]; rfl
    rw [ef] at d1
    have hex : execOp (putAll ops vs (todo.filter fun i => L.getD i false) a).eval o = execOp (putAll ops vs l a).eval o := d1.1.trans d2.1.symm
    have hwt : Region.wanted o (yielded ops (putAll ops vs (todo.filter fun i => L.getD i false) a).tmps) = Region.wanted o (yielded ops (putAll ops vs l a).tmps) := d1.2.trans d2.2.symm
    have hstep := (StepsF.at (l := l) (r := r) (by have := h vs; rw [show StepsF P ops md Q S G R todo vs todo a = StepsF P ops md Q S G R todo vs (l ++ i :: r) a from by rw [← e]] at this; exact this)) o ho w hS
      (fun j hj hw => hR j hj (hwl j hw))
    -- what follows
    have next : ∀ v w', S w' → G i w w' → R i (updV vs i v) w' → S w' ∧ wpAnyH P md ops Q S fuel (L.setIfInBounds i true) ((putAll ops vs (todo.filter fun i => L.getD i false) a).put o.dst v) w' := by
      intro v w' hS' hG hRi
      refine ⟨hS', ?_⟩
      have hget : ∀ j, (L.setIfInBounds i true).getD j false = true ↔ j = i ∨ L.getD j false = true := by
        intro j
        by_cases hj : i = j
        · subst hj; simp [hlt']
        · rw [getD_set_ne false hj]
          constructor
          · exact .inr
          · rintro (h | h)
            · exact absurd h.symm hj
            · exact h
      have hfr : (putAll ops vs (todo.filter fun i => L.getD i false) a).put o.dst v = putAll ops (updV vs i v) (todo.filter fun j => (L.setIfInBounds i true).getD j false) a := by
        have nd := hF.nodup
        rw [e, List.nodup_append] at nd
        have nil := (List.nodup_cons.1 nd.2.1).1
        have il : i ∉ l := fun hm => nd.2.2 i hm i (by simp) rfl
        have fl : ∀ m : List Nat, i ∉ m → m.filter (fun j => (L.setIfInBounds i true).getD j false) = m.filter (fun j => L.getD j false) := fun m hm => List.filter_congr fun j hj => by
          rw [getD_set_ne false (fun he => hm (by rw [he]; exact hj))]
        have same : ∀ m : List Nat, i ∉ m → ∀ b, putAll ops vs m b = putAll ops (updV vs i v) m b := fun m hm b => putAll_congr m b fun j hj => by
          show vs j = if j = i then v else vs j
          rw [if_neg (fun he : j = i => hm (by rw [← he]; exact hj))]
        rw [e, List.filter_append, List.filter_append, List.filter_cons, List.filter_cons, if_neg (by rw [h0']; simp), if_pos ((hget i).2 (.inl rfl)), fl l il, fl r nil, putAll_append, putAll_append]
        show _ = putAll ops (updV vs i v) (r.filter _) ((putAll ops (updV vs i v) (l.filter _) a).put (dstOf ops i) (updV vs i v i))
        rw [putAll_put]
        · rw [same _ (fun hm => il (List.mem_filter.1 hm).1), same _ (fun hm => nil (List.mem_filter.1 hm).1)]
          have : dstOf ops i = o.dst := by unfold dstOf; rw [ho]; rfl
          rw [this]
          unfold updV
          rw [if_pos rfl]
        · intro j hj t ht
          have hjr := (List.mem_filter.1 hj).1
          exact dist i htodo j (by rw [e]; exact List.mem_append_right _ (List.mem_cons_of_mem _ hjr)) (fun he => nil (he ▸ hjr)) t ht
      rw [hfr]
      refine ih _ _ _ (by simp [hsz]) (fun j hj => (hget j).2 (.inr (hL j hj))) ?_ hS' (fun j hj hjl => ?_) (fun j hj hjl k hk => ?_)
      · have lt : (todo.filter fun j => !(L.setIfInBounds i true).getD j false).length < (todo.filter fun j => !L.getD j false).length := by
          have nd := hF.nodup
          rw [e, List.nodup_append] at nd
          have nil := (List.nodup_cons.1 nd.2.1).1
          have il : i ∉ l := fun hm => nd.2.2 i hm i (by simp) rfl
          have fl : ∀ m : List Nat, i ∉ m → m.filter (fun j => !(L.setIfInBounds i true).getD j false) = m.filter (fun j => !L.getD j false) := fun m hm => List.filter_congr fun j hj => by
            rw [getD_set_ne false (fun he => hm (by rw [he]; exact hj))]
          rw [e, List.filter_append, List.filter_append, List.filter_cons, List.filter_cons, if_neg (by rw [(hget i).2 (.inl rfl)]; simp), if_pos (by rw [h0']; rfl), fl l il, fl r nil]
          simp
        omega
      · rcases (hget j).1 hjl with rfl | hjl2
        · exact hRi
        · by_cases hji : j = i
          · subst hji; exact hRi
          · refine hRc j hj vs (updV vs i v) w' (by unfold updV; rw [if_neg hji]) (fun k hk hkw => ?_) (hRg j hj i htodo (fun he => hji he.symm) (fun hm => by rw [closed _ hcl _ j hj hjl2 i htodo hm] at h0'; cases h0') vs w w' hG (hR j hj hjl2))
            unfold updV
            by_cases hki : k = i
            · -- i is not listed, but j waits for it
              subst hki
              have := hcl j hj hjl2 k hkw
              rw [h0'] at this
              cases this
            · rw [if_neg hki]
      · rcases (hget j).1 hjl with rfl | hjl
        · exact (hget k).2 (.inr (hwl k hk))
        · exact (hget k).2 (.inr (hcl j hj hjl k hk))
    unfold wpOp
    rw [ho]
    simp only
    rw [hwt]
    have hstep := hstep (fun a' w' => ∃ v, a' = (putAll ops vs l a).put o.dst v ∧ S w' ∧ G i w w' ∧ R i (updV vs i v) w') (fun v w' s1 s2 s3 => ⟨v, rfl, s1, s2, s3⟩)
    have hsz2 : (putAll ops vs l a).tmps.size = (putAll ops vs (todo.filter fun i => L.getD i false) a).tmps.size := by rw [(putAll_size vs _ _).1, (putAll_size vs _ _).1]
    by_cases hwnt : Region.wanted o (yielded ops (putAll ops vs l a).tmps) = true
    · rw [if_pos hwnt] at hstep ⊢
      exact .inl (wp_same (Z := fun v w' => S w' ∧ G i w w' ∧ R i (updV vs i v) w') hex hsz2 (fun v w' hz => next v w' hz.1 hz.2.1 hz.2.2) hstep)
    · rw [if_neg hwnt] at hstep ⊢
      obtain ⟨v, ev, s1, s2, s3⟩ := hstep
      rw [put_other hsz2 ev]
      exact next v w s1 s2 s3
/-- where what is known of an operation's value hangs on no other one's, and stays while the world grows -/
theorem wpAnyH_free1 (R : Nat → Value → World → Prop) (todo : List Nat) {fuel : Nat} {listed : Array Bool} {a : Act} {w : World}
    (hB : freeB md ops listed todo = true) (hfuel : todo.length ≤ fuel) (hRg : ∀ j v w w', Below w.heap.size w w' → R j v w → R j v w')
    (hS : S w) (h : ∀ vs, StepsF P ops md Q S (fun _ w w' => Below w.heap.size w w') (fun i vs w => R i (vs i) w) todo vs todo a) : wpAnyH P md ops Q S fuel listed a w :=
  wpAnyH_free (fun i vs w => R i (vs i) w) todo hB hfuel (fun j _ vs vs' w h0 _ hr => by rw [← h0]; exact hr) (fun j _ i _ _ _ vs w w' hg hr => hRg j _ w w' hg hr) hS h
theorem get_of_drop {l : List Oper} {i : Nat} {o : Oper} {rest : List Oper} (h : l.drop i = o :: rest) : l.toArray[i]? = some o := by
  have := congrArg (fun m : List Oper => m[0]?) h
  simpa using this
/-- an operation that yields its value in whatever world is taken first (handed over written out) -/
theorem wpAnyH_take1 {l rest : List Oper} {i : Nat} {oi : Oper} {v : Value} {fuel : Nat} {listed : Array Bool} {a : Act} {w : World} (hi : l.drop i = oi :: rest)
    (hs : Region.noSelect l.toArray = true) (hf : Region.free md l.toArray listed i = true) (hr : (Region.ready md l.toArray listed).contains i = true)
    (hQ : ∀ c a w, Q (.panic c) (a.put oi.dst v) w → Q (.panic c) a w) (hy : YieldsIf P l.toArray S oi v a) (hS : S w)
    (h : wpAnyH P md l.toArray Q S fuel (listed.setIfInBounds i true) (a.put oi.dst v) w) : wpAnyH P md l.toArray Q S (fuel + 1) listed a w :=
  wpAnyH_take (get_of_drop hi) hs hf hr hQ hy hS h
theorem StepsF.cons1 {l rest : List Oper} {G : Nat → World → World → Prop} {R : Nat → (Nat → Value) → World → Prop} {todo : List Nat} {vs : Nat → Value} {i : Nat} {m : List Nat} {a : Act} {o : Oper} (hi : l.drop i = o :: rest)
    (h : ∀ w, S w → (∀ j, todo.contains j = true → (waitsFor md l.toArray i).contains j = true → R j vs w) → ∀ K : Act → World → Prop, Shut (∀ v w', S w' → G i w w' → R i (updV vs i v) w' → K (a.put o.dst v) w') →
      if Region.wanted o (yielded l.toArray a.tmps) = true then o.wp P a w K (NoPanic Q) else K (a.put o.dst undef) w)
    (hr : StepsF P l.toArray md Q S G R todo vs m (a.put o.dst (vs i))) : StepsF P l.toArray md Q S G R todo vs (i :: m) a :=
  StepsF.cons (get_of_drop hi) h hr
end
end Go.Proofs.Ytoglgeaiiipchaa
