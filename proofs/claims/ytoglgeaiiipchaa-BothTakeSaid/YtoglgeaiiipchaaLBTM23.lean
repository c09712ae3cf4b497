/- Walks: walker.all: the spots that some lead to, by one step at least. -/
import Derived.Test.YtoglgeaiiipchaaLBTM21
import Derived.Test.YtoglgeaiiipchaaLBTM22
import Derived.Test.YtoglgeaiiipchaaLBTM13
import Derived.Sort.LoopGhostIn
set_option linter.unusedSimpArgs false
set_option linter.unusedVariables false
namespace Go.Proofs.Ytoglgeaiiipchaa
open Go Go.RowKit Go.Maps Go.Shelf

def SpOk (a : Au) (row : List Int) (y : Int × Nat) : Prop := 0 ≤ y.1 ∧ y.1 < a.st ∧ y.2 < row.length
theorem SpOk.w {a : Au} (ho : AuOK a) {row : List Int} (hr : row.length ≤ 8000) {y : Int × Nat} (h : SpOk a row y) : SpW y := by
  obtain ⟨h1, h2, h3⟩ := h
  have := ho.st2
  exact ⟨WalkArith.wf_i64 (by omega), WalkArith.wf_i64 (by omega)⟩
/-- the place behind a place -/
def nxt (row : List Int) (back p : Nat) : Nat := if p + 1 = row.length then back else p + 1
/-- the spots that a spot leads to -/
def succs (a : Au) (row : List Int) (back : Nat) (x : Int × Nat) : List (Int × Nat) := spotNext a row x.1 x.2 (nxt row back x.2) (stepsFrom a x.1)
theorem succs_ok {a : Au} (ho : AuOK a) {row : List Int} {back : Nat} (hb : back < row.length) {x y : Int × Nat} (hx : SpOk a row x) (h : y ∈ succs a row back x) : SpOk a row y := by
  unfold succs spotNext at h
  obtain ⟨s, hs, rfl⟩ := List.mem_map.1 h
  have h1 := (List.mem_filter.1 (List.mem_filter.1 hs).1).1
  have h2 := (ho.sr s h1).2.1
  refine ⟨h2.1, h2.2, ?_⟩
  show nxt row back x.2 < _
  have := hx.2.2
  unfold nxt
  split <;> omega
def SpE (a : Au) (row : List Int) (back : Nat) (x y : Int × Nat) : Prop := y ∈ succs a row back x
/-- how many spots there are -/
def spMax (a : Au) (row : List Int) : Nat := a.st.toNat * row.length
theorem nodup_bound : ∀ (n : Nat) (L : List Nat), L.Nodup → (∀ x ∈ L, x < n) → L.length ≤ n
  | 0, [], _, _ => Nat.le_refl _
  | 0, x :: L, _, h => absurd (h x (List.mem_cons_self ..)) (by omega)
  | n + 1, L, hn, h => by
    have h1 := nodup_bound n (L.filter (· ≠ n)) (hn.filter _) (fun x hx => by
      obtain ⟨h2, h3⟩ := List.mem_filter.1 hx
      have := h x h2
      simp at h3
      omega)
    have h2 : L.length ≤ (L.filter (· ≠ n)).length + 1 := by
      by_cases hm : n ∈ L
      · have he : L.erase n = L.filter (· ≠ n) := by
          have := hn.erase_eq_filter n
          rw [this]
          congr 1
          funext x
          by_cases hx : x = n <;> simp [hx, bne]
        rw [← he, List.length_erase_of_mem hm]
        omega
      · rw [List.filter_eq_self.2 (fun x hx => by simp; rintro rfl; exact hm hx)]
        omega
    omega
theorem modl {q R p : Nat} (h : p < R) : (q * R + p) % R = p := by rw [Nat.mul_comm, Nat.mul_add_mod, Nat.mod_eq_of_lt h]
theorem spot_bound {a : Au} {row : List Int} {L : List (Int × Nat)} (hn : L.Nodup) (h : ∀ y ∈ L, SpOk a row y) : L.length ≤ spMax a row := by
  have := nodup_bound (spMax a row) (L.map fun y => y.1.toNat * row.length + y.2) (List.pairwise_map.2 (hn.imp_of_mem fun {y z} hy hz hne he => hne (by
      obtain ⟨h1, _, h3⟩ := h y hy
      obtain ⟨k1, _, k3⟩ := h z hz
      have e1 : (y.1.toNat * row.length + y.2) % row.length = (z.1.toNat * row.length + z.2) % row.length := by rw [he]
      rw [modl h3, modl k3] at e1
      have e2 : y.1.toNat * row.length = z.1.toNat * row.length := by omega
      have e3 := Nat.eq_of_mul_eq_mul_right (show 0 < row.length by omega) e2
      exact Prod.ext (by omega) e1))) (fun x hx => by
    obtain ⟨y, hy, rfl⟩ := List.mem_map.1 hx
    obtain ⟨h1, h2, h3⟩ := h y hy
    have h4 := Nat.mul_le_mul_right row.length (show y.1.toNat + 1 ≤ a.st.toNat by omega)
    unfold spMax
    rw [Nat.succ_mul] at h4
    omega)
  simpa using this

/-- what has been met, and what is left -/
structure Met (a : Au) (row : List Int) (back : Nat) (fr L left : List (Int × Nat)) (n : Nat) (op : Option (Int × Nat)) : Prop where
  nd : L.Nodup
  ok : ∀ y ∈ L, SpOk a row y
  lok : ∀ y ∈ left, y ∈ fr ∨ y ∈ L
  sound : ∀ y ∈ L, ∃ x ∈ fr, Plus (SpE a row back) x y
  closed : ∀ z, z ∈ fr ∨ z ∈ L → z ∈ left ∨ some z = op ∨ ∀ y, SpE a row back z y → y ∈ L
  len : left.length ≤ fr.length + L.length
  meas : 2 * (spMax a row - L.length) + left.length ≤ n
theorem Met.start (a : Au) (row : List Int) (back : Nat) (fr : List (Int × Nat)) : Met a row back fr [] fr (2 * spMax a row + fr.length) none :=
  ⟨.nil, fun y h => (by cases h), fun y h => .inl h, fun y h => (by cases h), fun z h => .inl (h.elim id fun h => (by cases h)), by simp, by simp⟩
theorem Met.pop {a : Au} {row : List Int} {back n : Nat} {fr L left : List (Int × Nat)} {x : Int × Nat} (h : Met a row back fr L (left ++ [x]) n none) : Met a row back fr L left (n - 1) (some x) ∧ 0 < n := by
  have h1 := h.meas
  have h2 := h.len
  rw [List.length_append, List.length_cons, List.length_nil] at h1 h2
  refine ⟨⟨h.nd, h.ok, fun y hy => h.lok y (List.mem_append_left _ hy), h.sound, fun z hz => ?_, by omega, by omega⟩, by omega⟩
  rcases h.closed z hz with h3 | h3 | h3
  · rcases List.mem_append.1 h3 with h4 | h4
    · exact .inl h4
    · exact .inr (.inl (by rw [List.mem_singleton.1 h4]))
  · cases h3
  · exact .inr (.inr h3)
theorem Met.add {a : Au} {row : List Int} {back n : Nat} {fr L left : List (Int × Nat)} {x y : Int × Nat} (h : Met a row back fr L left n (some x)) (hx : x ∈ fr ∨ x ∈ L) (hy : SpE a row back x y) (hok : SpOk a row y) (hL : y ∉ L) :
    Met a row back fr (L ++ [y]) (left ++ [y]) n (some x) := by
  have hnd : (L ++ [y]).Nodup := List.nodup_append.2 ⟨h.nd, by simp, fun u hu v hv e => hL (by rw [← List.mem_singleton.1 hv, ← e]; exact hu)⟩
  have hok' : ∀ z ∈ L ++ [y], SpOk a row z := fun z hz => (List.mem_append.1 hz).elim (h.ok z) fun h1 => by rw [List.mem_singleton.1 h1]; exact hok
  have hb := spot_bound hnd hok'
  have h1 := h.meas
  have h2 := h.len
  rw [List.length_append, List.length_cons, List.length_nil] at hb
  refine ⟨hnd, hok', fun z hz => ?_, fun z hz => ?_, fun z hz => ?_, by simp; omega, by simp; omega⟩
  · rcases List.mem_append.1 hz with h3 | h3
    · exact (h.lok z h3).imp id (List.mem_append_left _)
    · exact .inr (List.mem_append_right _ h3)
  · rcases List.mem_append.1 hz with h3 | h3
    · exact h.sound z h3
    · rw [List.mem_singleton.1 h3]
      rcases hx with h4 | h4
      · exact ⟨x, h4, .one hy⟩
      · obtain ⟨f, hf, hp⟩ := h.sound x h4
        exact ⟨f, hf, hp.on hy⟩
  · have : (z ∈ fr ∨ z ∈ L) ∨ z = y := by
      rcases hz with h3 | h3
      · exact .inl (.inl h3)
      · exact (List.mem_append.1 h3).elim (fun h4 => .inl (.inr h4)) fun h4 => .inr (List.mem_singleton.1 h4)
    rcases this with h3 | rfl
    · rcases h.closed z h3 with h4 | h4 | h4
      · exact .inl (List.mem_append_left _ h4)
      · exact .inr (.inl h4)
      · exact .inr (.inr fun u hu => List.mem_append_left _ (h4 u hu))
    · exact .inl (by simp)
theorem Met.shut {a : Au} {row : List Int} {back n : Nat} {fr L left : List (Int × Nat)} {x : Int × Nat} (h : Met a row back fr L left n (some x)) (hc : ∀ y ∈ succs a row back x, y ∈ L) : Met a row back fr L left n none := by
  refine ⟨h.nd, h.ok, h.lok, h.sound, fun z hz => ?_, h.len, h.meas⟩
  rcases h.closed z hz with h1 | h1 | h1
  · exact .inl h1
  · exact .inr (.inr fun y hy => hc y (by rw [← Option.some.inj h1]; exact hy))
  · exact .inr (.inr h1)
theorem Met.done {a : Au} {row : List Int} {back n : Nat} {fr L : List (Int × Nat)} (h : Met a row back fr L [] n none) (y : Int × Nat) : y ∈ L ↔ ∃ x ∈ fr, Plus (SpE a row back) x y := by
  refine ⟨h.sound y, ?_⟩
  rintro ⟨x, hx, hp⟩
  have key : ∀ z, z ∈ fr ∨ z ∈ L → ∀ y, SpE a row back z y → y ∈ L := fun z hz => (h.closed z hz).elim (fun h => (by cases h)) fun h => h.elim (fun h => (by cases h)) id
  induction hp with
  | one h1 => exact key x (.inl hx) _ h1
  | on _ h1 ih => exact key _ (.inr ih) _ h1

/-! ### in memory -/
/-- walker.all's memory; w: the world of the call; fv: the slice handed in -/
structure AlMem (lo : Nat) (w : World) (fv : Value) (F M T : Nat) (L left : List (Int × Nat)) (v : Value) (W : World) : Prop where
  grown : w.grownBy W fv.ownBlock
  box : Boxed W F 83 v
  fr : FromIs W lo v left
  loc : v.ownBlock = fv.ownBlock ∨ ∀ r, v.ownBlock = some r → w.heap.size ≤ r
  map : MapAt W M L
  t5 : Boxed W T 86 (.map (some M))
  row : ∀ r n S, RowIn w r n S → (∀ y ∈ L, S y) → RowIn W r n S
variable {lo F M T : Nat} {w W W' : World} {fv v : Value} {L left : List (Int × Nat)}
theorem AlMem.below (h : AlMem lo w fv F M T L left v W) (hb : Below W.heap.size W W') : AlMem lo w fv F M T L left v W' := by
  have hg : W.grownBy W' none := ⟨hb.os, hb.tape, hb.output, hb.size, fun k hk _ => hb.block k hk⟩
  refine ⟨⟨hb.os.trans h.grown.os, hb.tape.trans h.grown.tape, hb.output.trans h.grown.output, Nat.le_trans h.grown.size hb.size, fun k hk hn => (hb.block k (Nat.lt_of_lt_of_le hk h.grown.size)).trans (h.grown.block k hk hn)⟩,
    h.box.kept hg (by simp), own_below h.fr hb, h.loc, h.map.below hb, h.t5.kept hg (by simp), fun r n S hr hs => (h.row r n S hr hs).heap (hb.block r (h.row r n S hr hs).lt)⟩
theorem AlMem.own {n : Nat} (hM : M < n) (hw : w.heap.size ≤ n) {row : Option Nat} (h : AlMem lo w fv F M T L left v W) (hg : W.grownBy W' row) (hr : ∀ r, row = some r → n ≤ r ∧ ∃ o : Obj, W.heap[r]? = some o ∧ o.isCells = false) : AlMem lo w fv F M T L left v W' := by
  have cl : ∀ {k : Nat} {o : Obj}, W.heap[k]? = some o → o.isCells = true → some k ≠ row := fun hk ho e => by
    obtain ⟨_, o', h1, h2⟩ := hr _ e.symm
    rw [hk] at h1
    rw [← Option.some.inj h1, ho] at h2
    cases h2
  have nm : some M ≠ row := fun e => by have := (hr M e.symm).1; omega
  refine ⟨⟨hg.os.trans h.grown.os, hg.tape.trans h.grown.tape, hg.output.trans h.grown.output, Nat.le_trans h.grown.size hg.size, fun k hk hn => (hg.block k (Nat.lt_of_lt_of_le hk h.grown.size) fun e => by have := (hr k e.symm).1; omega).trans (h.grown.block k hk hn)⟩,
    h.box.kept hg (cl h.box rfl), ?_, h.loc, World.ownsMap.kept h.map hg nm, h.t5.kept hg (cl h.t5 rfl), fun r n S h1 h2 => ?_⟩
  · refine World.ownsRow.kept h.fr hg ?_
    cases hv : v.ownBlock with
    | none => exact .inl rfl
    | some r =>
      obtain ⟨ob, h1, h2⟩ := own_cells h.fr hv
      exact .inr (cl h1 h2)
  · obtain ⟨cur, h3, h4⟩ := h.row r n S h1 h2
    exact RowIn.heap ⟨cur, h3, h4⟩ (hg.block r (Array.getElem?_eq_some_iff.1 h3).1 (cl h3 rfl))
theorem AlMem.set {u : Value} {left' : List (Int × Nat)} (hF : w.heap.size ≤ F) (hFM : F ≠ M) (hFT : F ≠ T) (h : AlMem lo w fv F M T L left v W) (hu : FromIs W lo u left') (hloc : u.ownBlock = v.ownBlock) : AlMem lo w fv F M T L left' u (W.setCell ⟨F, 0, none⟩ u) := by
  have hg := grownBy_setCell' W F u
  refine ⟨⟨h.grown.os, h.grown.tape, h.grown.output, Nat.le_trans h.grown.size hg.size, fun k hk hn => (hg.block k (Nat.lt_of_lt_of_le hk h.grown.size) fun e => by simp at e; omega).trans (h.grown.block k hk hn)⟩,
    h.box.set u, World.ownsRow.kept hu hg (.inr (h.box.not_row (by decide) hu).symm), by rw [hloc]; exact h.loc, World.ownsMap.kept h.map hg (by simpa using hFM.symm), h.t5.kept hg (by simpa using hFT.symm), fun r n S h1 h2 => ?_⟩
  obtain ⟨cur, h3, h4⟩ := h.row r n S h1 h2
  refine RowIn.heap ⟨cur, h3, h4⟩ (hg.block r (Array.getElem?_eq_some_iff.1 h3).1 fun e => ?_)
  obtain rfl : r = F := by simpa using e
  have := (show W.heap[r]? = _ from h.box).symm.trans h3
  simp at this
theorem AlMem.map1 {W1 : World} {L1 : List (Int × Nat)} (hM : w.heap.size ≤ M) (hFM : F ≠ M) (hTM : T ≠ M) (h : AlMem lo w fv F M T L left v W) (hg : W.grownBy W1 (some M)) (hm : MapAt W1 M L1) (hL : ∀ y ∈ L, y ∈ L1) : AlMem lo w fv F M T L1 left v W1 := by
  obtain ⟨es, ck, hmb, _⟩ : ∃ es ck, W.heap[M]? = some (.map es ck) ∧ True := by obtain ⟨es, ck, h1, _⟩ := h.map; exact ⟨es, ck, h1, trivial⟩
  refine ⟨⟨hg.os.trans h.grown.os, hg.tape.trans h.grown.tape, hg.output.trans h.grown.output, Nat.le_trans h.grown.size hg.size, fun k hk hn => (hg.block k (Nat.lt_of_lt_of_le hk h.grown.size) fun e => by simp at e; omega).trans (h.grown.block k hk hn)⟩,
    h.box.kept hg (by simpa using hFM), World.ownsRow.kept h.fr hg ?_, h.loc, hm, h.t5.kept hg (by simpa using hTM), fun r n S h1 h2 => ?_⟩
  · cases hv : v.ownBlock with
    | none => exact .inl rfl
    | some r =>
      obtain ⟨ob, h1, h2⟩ := own_cells h.fr hv
      refine .inr fun e => ?_
      obtain rfl : r = M := by simpa using e
      rw [hmb] at h1
      rw [← Option.some.inj h1] at h2
      cases h2
  · have h3 := h.row r n S h1 fun y hy => h2 y (hL y hy)
    refine h3.heap (hg.block r h3.lt fun e => ?_)
    obtain rfl : r = M := by simpa using e
    obtain ⟨cur, h4, _⟩ := h3
    rw [hmb] at h4
    cases h4
theorem AlMem.app {W3 : World} {v3 : Value} {y : Int × Nat} (hF : w.heap.size ≤ F) (hFM : F ≠ M) (hFT : F ≠ T) (h : AlMem lo w fv F M T L left v W) (hfr : FromIs W3 lo v3 (left ++ [y])) (hg : W.grownBy W3 v.ownBlock)
    (hat : v3.ownBlock = v.ownBlock ∨ v3.ownBlock = some W.heap.size) (hrow : ∀ r n S, RowIn W r n S → S y → RowIn W3 r n S) (hy : y ∈ L) :
    Boxed W3 F 83 v ∧ AlMem lo w fv F M T L (left ++ [y]) v3 (W3.setCell ⟨F, 0, none⟩ v3) := by
  have hb3 : Boxed W3 F 83 v := h.box.kept hg (h.box.not_row (by decide) h.fr)
  have hg3 := grownBy_setCell' W3 F v3
  have hvM : some M ≠ v.ownBlock := fun e => by
    obtain ⟨ob, h1, h2⟩ := own_cells h.fr e.symm
    obtain ⟨es, ck, h3, _⟩ := h.map
    rw [h3] at h1
    rw [← Option.some.inj h1] at h2
    cases h2
  have hm3 : MapAt W3 M L := World.ownsMap.kept h.map hg hvM
  refine ⟨hb3, ⟨⟨hg.os.trans h.grown.os, hg.tape.trans h.grown.tape, hg.output.trans h.grown.output, Nat.le_trans h.grown.size (Nat.le_trans hg.size hg3.size), fun k hk hn => ?_⟩, hb3.set v3, World.ownsRow.kept hfr hg3 (.inr (hb3.not_row (by decide) hfr).symm), ?_, World.ownsMap.kept hm3 hg3 (by simpa using hFM.symm), (h.t5.kept hg (h.t5.not_row (by decide) h.fr)).kept hg3 (by simpa using hFT.symm), fun r n S h1 h2 => ?_⟩⟩
  · have hkW := Nat.lt_of_lt_of_le hk h.grown.size
    refine (hg3.block k (Nat.lt_of_lt_of_le hkW hg.size) fun e => by simp at e; omega).trans ((hg.block k hkW fun e => ?_).trans (h.grown.block k hk hn))
    rcases h.loc with h1 | h1
    · exact hn (e.trans h1)
    · have := h1 k e.symm; omega
  · rcases hat with h1 | h1
    · rw [h1]; exact h.loc
    · exact .inr fun r hr => by rw [h1] at hr; have := h.grown.size; simp at hr; omega
  · have h3 := hrow r n S (h.row r n S h1 h2) (h2 y hy)
    refine h3.heap (hg3.block r h3.lt fun e => ?_)
    obtain rfl : r = F := by simpa using e
    obtain ⟨cur, h4, _⟩ := h3
    have := (show W3.heap[r]? = _ from hb3).symm.trans h4
    simp at this
/-- a step from one such memory to another is one that rounds may do -/
theorem AlMem.off {W' : World} {v' : Value} {L' left' : List (Int × Nat)} {Ms : List Nat} (h : AlMem lo w fv F M T L left v W) (h' : AlMem lo w fv F M T L' left' v' W') (hF : lo ≤ F) (hM : ∀ k ∈ Ms, lo ≤ k ∧ k < W.heap.size) (hMm : M ∈ Ms)
    (hos : W'.os = W.os) (htape : W'.tape = W.tape) (hout : W'.output = W.output) (hsz : W.heap.size ≤ W'.heap.size)
    (hb : ∀ k, k < W.heap.size → k ≠ M → k ≠ F → v.ownBlock ≠ some k → W'.heap[k]? = W.heap[k]?) (hat : v'.ownBlock = v.ownBlock ∨ ∀ r, v'.ownBlock = some r → W.heap.size ≤ r) : Off lo Ms [F] W W' :=
  off_box h.box h'.box h'.fr hF hM hos htape hout hsz (fun k hk h1 h2 h3 => hb k hk (fun e => h1 (by rw [e]; exact hMm)) h2 h3) hat
/-- the append at the operation, within a fence -/
theorem wpListIn_app_sp {Fn : Fence} {n : Nat} {ops : Array Oper} {rest : List Oper} {o : Oper} {a : Act} {Q : Exit → Act → World → Prop} (hgd : o.guard = none) (s x : Operand)
    (ho : o.op = .call { callee := .builtin .append, args := #[s, x], argTypes := #[83, 83] }) {y : Int × Nat} {B : Nat} (hs : a.eval s = v) (hx : a.eval x = .slice (some ⟨B, 0, none⟩) 1 1)
    (hown : FromIs W lo v left) (hB : W.heap[B]? = some (.cells #[.int .i64 y.1, .int .i64 (y.2 : Int)] 85 (0, 0))) (hl : left.length ≤ 10000000) (hlo : lo ≤ W.heap.size)
    (h : ∀ v' W', FromIs W' lo v' (left ++ [y]) → W.grownBy W' v.ownBlock → (v'.ownBlock = v.ownBlock ∨ v'.ownBlock = some W.heap.size) → (∀ r n S, RowIn W r n S → S y → RowIn W' r n S) → wpListIn Fn n Try.prog ops Q rest (a.put o.dst v') W') :
    wpListIn Fn n Try.prog ops Q (o :: rest) a W := by
  refine wpListIn_plain hgd fun K' hK' => ?_
  obtain ⟨v', W', hrun, h1, h2, h3, h4⟩ := run_append_sp o.type hown hB hl hlo
  unfold Oper.wpIn
  refine ⟨by simp [Oper.about, ho, resolve, Target.leads, Sem.run_pure], ?_⟩
  rw [Oper.semAt_plain Fn _ _ (by rw [ho]; intro c hc'; cases hc')]
  simp [execOp, ho, resolve, invoke, builtin, hs, hx, hrun, Result.andThen]
  exact hK' _ _ (h v' W' h1 h2 h3 h4)
end Go.Proofs.Ytoglgeaiiipchaa

namespace Go.Proofs.Ytoglgeaiiipchaa
open Go Go.RowKit Go.Maps Go.Shelf
attribute [local go_sem] Oper.semAt_some

theorem zeroInt (w : World) : (zeroValue 3).run Try.prog w = .ok (.int .i64 0) w := by kernel_rfl
def AllPost (a : Au) (row : List Int) (back : Nat) (w : World) (fv : Value) (fr : List (Int × Nat)) (e : Ending) (w' : World) : Prop :=
  ∃ M L, e = .returned (.map (some M)) ∧ w.heap.size ≤ M ∧ MapAt w' M L ∧ (∀ y ∈ L, SpOk a row y) ∧ L.Nodup ∧ (∀ y, y ∈ L ↔ ∃ x ∈ fr, Plus (SpE a row back) x y) ∧ w.grownBy w' fv.ownBlock ∧ ∀ r n S, RowIn w r n S → (∀ y ∈ L, S y) → RowIn w' r n S
/-- the marks of loops that have ended, among what no round turns -/
def MarksG (lo M F : Nat) (W : World) (ds : List Deferred) : Prop := ∃ Ds : List Nat, ds = Ds.map (fun D => { target := .collected D, args := #[] }) ∧ Ds.Nodup ∧ ∀ D ∈ Ds, F + 1 + 1 + 1 ≤ D ∧ Good lo [M] [F] W D ∧ W.heap[D]? = some (.deferred (some []))
theorem MarksG.nil (lo M F : Nat) (W : World) : MarksG lo M F W [] := ⟨[], rfl, .nil, fun D h => by cases h⟩
theorem MarksG.off {lo M F : Nat} {W W' : World} {ds : List Deferred} (h : MarksG lo M F W ds) (ho : Off lo [M] [F] W W') : MarksG lo M F W' ds := by
  obtain ⟨Ds, h1, h2, h3⟩ := h
  exact ⟨Ds, h1, h2, fun D hD => by obtain ⟨a1, a2, a3⟩ := h3 D hD; exact ⟨a1, a2.off ho, (ho.block D a2.lt a2.not).trans a3⟩⟩
theorem MarksG.marks {lo M F : Nat} {W : World} {ds : List Deferred} (h : MarksG lo M F W ds) : Marks (F + 1 + 1 + 1) W ds := by
  obtain ⟨Ds, h1, h2, h3⟩ := h
  exact ⟨Ds, h1, h2, fun D hD => ⟨(h3 D hD).1, (h3 D hD).2.2⟩⟩
/-- what stands at the head of a round -/
structure AlIn (a : Au) (row : List Int) (back : Nat) (w0 w : World) (fv : Value) (fr : List (Int × Nat)) (F M T n : Nat) (op : Option (Int × Nat)) (ds : List Deferred) (L left : List (Int × Nat)) (v : Value) (W : World) : Prop where
  mem : AlMem w0.heap.size w fv F M T L left v W
  met : Met a row back fr L left n op
  marks : MarksG w0.heap.size M F W ds
/-- what stands between two rounds over the steps from x, that began in w3 -/
structure AlR (a : Au) (row : List Int) (back : Nat) (w0 w : World) (fv : Value) (fr : List (Int × Nat)) (F M T n : Nat) (x : Int × Nat) (w3 : World) (L left : List (Int × Nat)) (v : Value) (pre : List (Int × Nat)) (W : World) : Prop where
  mem : AlMem w0.heap.size w fv F M T L left v W
  met : Met a row back fr L left n (some x)
  off : Off w0.heap.size [M] [F] w3 W
  pre : ∀ y ∈ pre, y ∈ L
  hx : x ∈ fr ∨ x ∈ L
set_option maxRecDepth 100000 in
set_option maxHeartbeats 4000000 in
theorem all_ (a : Au) (A B C D : Option Addr) (ca cb cc cr K V back : Nat) (row : List Int) (fv : Value) (fr : List (Int × Nat)) (w0 w : World) (hK : WkAt w0 K V a A B C ca cb cc row D cr back) (hb0 : Below w0.heap.size w0 w)
    (hfr : FromIs w w0.heap.size fv fr) (hsp : ∀ y ∈ fr, SpOk a row y) (ho : AuOK a) (hos : ssSorted a.ss) (hr : row.length ≤ 8000) (hb : back < row.length) (hfl : fr.length ≤ 1000) :
    Calls Try.prog 50 #[.pointer (some ⟨K, 0, none⟩), fv] w (AllPost a row back w fv fr) := by
  obtain ⟨fA, fc, rfl, hfc⟩ : ∃ A c, fv = .slice A fr.length c ∧ fr.length ≤ c := by
    obtain ⟨A', c, h1, h2, _⟩ := own_form hfr
    exact ⟨A', c, h1, h2⟩
  have hmm := @run_makeMap Try.prog
  have HK := Lib.hid hK
  have HFR := Lib.hid hfr
  have HSP := Lib.hid hsp
  have HO := Lib.hid ho
  have HOS := Lib.hid hos
  have HB0 := Lib.hid hb0
  have hlow := hb0.size
  clear hK hfr hsp hos hb0
  refine (callsIn_wide (n := 9)).1 ?_
  refine callsIn_of_wp_marks Try.func50 rfl trivial ?_
  simp only [Try.ntmps50, List.size_toArray, List.length_cons, List.length_nil, Nat.reduceAdd, Nat.reduceSub, Array.replicate_succ, Array.replicate_zero, List.push_toArray, List.append_toArray, List.nil_append, List.cons_append]
  gi_wp2
  obtain ⟨F, hF⟩ : ∃ F, F = w.heap.size := ⟨_, rfl⟩
  have HIN0 : Hid (AlIn a row back w0 w (.slice fA fr.length fc) fr F (F + 1) (F + 1 + 1) (2 * spMax a row + fr.length) none [] [] fr (.slice fA fr.length fc) (((w.alloc (Obj.cells #[.slice fA fr.length fc] 83)).alloc (Obj.map #[] 0)).alloc (Obj.cells #[.map (some (w.heap.size + 1))] 86))) := by
    subst hF
    refine ⟨⟨?_, ?_, ?_, .inl rfl, ?_, ?_, ?_⟩, Met.start _ _ _ _, MarksG.nil _ _ _ _⟩
    · exact ⟨rfl, rfl, rfl, by simp; omega, fun k hk _ => by
        rw [Below.heap_alloc _ _ _ (by simp; omega), Below.heap_alloc _ _ _ (by simp; omega), Below.heap_alloc _ _ _ hk]⟩
    · exact ((Boxed.new w _ _).alloc _).alloc _
    · exact own_below HFR.out ((((Below.refl _ _).alloc (Nat.le_refl _) _).alloc (by simp) _).alloc (by simp; omega) _)
    · have := MapAt.made (w.alloc (Obj.cells #[.slice fA fr.length fc] 83))
      rw [World.size_alloc] at this
      exact World.ownsMap.alloc this _
    · have := Boxed.new ((w.alloc (Obj.cells #[.slice fA fr.length fc] 83)).alloc (Obj.map #[] 0)) 86 (.map (some (w.heap.size + 1)))
      simpa using this
    · intro r n S h1 _
      exact h1.heap (by rw [Below.heap_alloc _ _ _ (by have := h1.lt; simp; omega), Below.heap_alloc _ _ _ (by have := h1.lt; simp; omega), Below.heap_alloc _ _ _ h1.lt])
  rw [← hF] at HIN0 ⊢
  have HFF := Lib.hid hF
  clear hmm
  generalize ((w.alloc (Obj.cells #[.slice fA fr.length fc] 83)).alloc (Obj.map #[] 0)).alloc (Obj.cells #[.map (some (F + 1))] 86) = W1 at *
  refine wpIn_loop_ghost (fun n aa W => ∃ u6 u7 u9 u10 u11 u12 u13 u14 u15 u16 u17 u18 u19 u20 u21 u22 u23 u24 u25 u26 u27 u28 u29 u30 u31 u32 u33 u34 u35 u36 ds L left v, aa = { tmps := #[.pointer (some ⟨K, 0, none⟩), .slice fA fr.length fc, undef, .pointer (some ⟨F, 0, none⟩), .map none, .pointer (some ⟨F + 1 + 1, 0, none⟩), u6, u7, .map (some (F + 1)), u9, u10, u11, u12, u13, u14, u15, u16, u17, u18, u19, u20, u21, u22, u23, u24, u25, u26, u27, u28, u29, u30, u31, u32, u33, u34, u35, u36, undef], defers := ds } ∧ Hid (AlIn a row back w0 w (.slice fA fr.length fc) fr F (F + 1) (F + 1 + 1) n none ds L left v W)) (2 * spMax a row + fr.length) ⟨undef, undef, undef, undef, undef, undef, undef, undef, undef, undef, undef, undef, undef, undef, undef, undef, undef, undef, undef, undef, undef, undef, undef, undef, undef, undef, undef, undef, undef, undef, [], [], fr, _, rfl, HIN0.out⟩ ?_
  rintro n aa wr ⟨u6, u7, u9, u10, u11, u12, u13, u14, u15, u16, u17, u18, u19, u20, u21, u22, u23, u24, u25, u26, u27, u28, u29, u30, u31, u32, u33, u34, u35, u36, ds, L, left, v, rfl, HIN⟩
  clear hF HIN0
  obtain ⟨lA, lc, rfl, hlc⟩ : ∃ A c, v = .slice A left.length c ∧ left.length ≤ c := by
    obtain ⟨A', c, h1, h2, _⟩ := own_form HIN.out.mem.fr
    exact ⟨A', c, h1, h2⟩
  have cF := HIN.out.mem.box.cell
  have fF := HIN.out.mem.box.frozen
  have cT := HIN.out.mem.t5.cell
  rcases List.eq_nil_or_concat left with rfl | ⟨lef, x, hlx⟩
  · gi_wp2
    refine leaves_marks (v := undef) (B := F + 1 + 1 + 1) (I := fun _ W => AlMem w0.heap.size w (.slice fA fr.length fc) F (F + 1) (F + 1 + 1) L [] (.slice lA 0 lc) W) (fun _ A' B' rw hs hg hr => hs.own (n := F + 1 + 1 + 1) (by omega) (by have := HFF.out; omega) hg hr) (fun W hW => ?_) ds wr HIN.out.marks.marks HIN.out.mem
    exact ⟨_, results_tmp rfl _ _ _, F + 1, L, rfl, by have := HFF.out; omega, hW.map, HIN.out.met.ok, HIN.out.met.nd, HIN.out.met.done, hW.grown, hW.row⟩
  · have hlx : left = lef ++ [x] := by rw [hlx]; simp
    subst hlx
    rw [List.length_append, List.length_cons, List.length_nil, Nat.zero_add] at cF hlc HIN
    have hlmax : lef.length + 1 ≤ 10000000 := by
      have h1 := HIN.out.met.len
      have h2 := spot_bound HIN.out.met.nd HIN.out.met.ok
      have h3 := HO.out.st2
      have h4 : spMax a row ≤ 300 * 8000 := Nat.mul_le_mul (by omega) hr
      rw [List.length_append, List.length_cons, List.length_nil] at h1
      omega
    obtain ⟨g, rfl⟩ : ∃ g, lA = some ⟨g, 0, none⟩ := by
      obtain ⟨g, cap, hv⟩ := ownsRow_succ (k := lef.length) (by have := HIN.out.mem.fr; unfold FromIs at this; rw [List.length_append] at this; exact this)
      simp at hv
      exact ⟨g, hv.1⟩
    have hgx : wr.cell? ⟨g, lef.length * 2, none⟩ = some (.int .i64 x.1) ∧ wr.cell? ⟨g, lef.length * 2 + 1, none⟩ = some (.int .i64 (x.2 : Int)) := by
      have h1 := World.ownsRow.cells HIN.out.mem.fr (g := g) rfl
      have h2 := fun i u hu => flatMap_get spC_len (lef ++ [x]) lef.length (by simp) i u (by rw [List.getElem_append_right (Nat.le_refl _)]; simp; exact hu)
      exact ⟨by have := h1 _ _ (h2 0 _ rfl); rwa [Addr_add_off, Nat.zero_add] at this, by have := h1 _ _ (h2 1 _ rfl); rwa [Addr_add_off, Nat.zero_add] at this⟩
    obtain ⟨q0, q1⟩ := hgx
    obtain ⟨xq, xp⟩ := x
    simp only at q0 q1
    have hba : Below wr.heap.size wr (wr.alloc (Obj.cells #[.int .i64 xq, .int .i64 (xp : Int)] 85)) := (Below.refl _ _).alloc (Nat.le_refl _) _
    have hFl : F < wr.heap.size := HIN.out.mem.box.lt
    have cFa : (wr.alloc (Obj.cells #[.int .i64 xq, .int .i64 (xp : Int)] 85)).cell? ⟨F, 0, none⟩ = some (.slice (some ⟨g, 0, none⟩) (lef.length + 1) lc) := (hba.cell (p := ⟨F, 0, none⟩) hFl).trans cF
    have fFa : (wr.alloc (Obj.cells #[.int .i64 xq, .int .i64 (xp : Int)] 85)).frozen? ⟨F, 0, none⟩ = false := (hba.frozen (p := ⟨F, 0, none⟩) hFl).trans fF
    have hFF := HFF.out
    have HINb : Hid (AlIn a row back w0 w (.slice fA fr.length fc) fr F (F + 1) (F + 1 + 1) (n - 1) (some (xq, xp)) ds L lef (.slice (some ⟨g, 0, none⟩) lef.length lc) ((wr.setCell ⟨F, 0, none⟩ (.slice (some ⟨g, 0, none⟩) lef.length lc)).alloc (Obj.cells #[.int .i64 xq, .int .i64 (xp : Int)] 85))) := by
      have h1 := HIN.out.mem.set (u := .slice (some ⟨g, 0, none⟩) lef.length lc) (left' := lef) (by omega) (by omega) (by omega) (FromIs.pop HIN.out.mem.fr) rfl
      have h2 := h1.below (W' := (wr.setCell ⟨F, 0, none⟩ (.slice (some ⟨g, 0, none⟩) lef.length lc)).alloc (Obj.cells #[.int .i64 xq, .int .i64 (xp : Int)] 85)) ((Below.refl _ _).alloc (Nat.le_refl _) _)
      refine ⟨h2, HIN.out.met.pop.1, HIN.out.marks.off ?_⟩
      refine HIN.out.mem.off h2 (by omega) (fun k hk => by rw [List.mem_singleton.1 hk]; have := HIN.out.mem.map.lt; omega) (List.mem_singleton.2 rfl) rfl rfl rfl (by simp [World.setCell]) (fun k hk h3 h4 h5 => ?_) (.inl rfl)
      rw [Below.heap_alloc _ _ _ (by simp [World.setCell]; exact hk)]
      exact Below.heap_setCell _ _ _ _ h4
    have hn0 : 0 < n := HIN.out.met.pop.2
    have hxb : (xq, xp) ∈ fr ∨ (xq, xp) ∈ L := HIN.out.met.lok _ (by simp)
    have HXB := Lib.hid hxb
    have HB01 : Hid (((wr.setCell ⟨F, 0, none⟩ (.slice (some ⟨g, 0, none⟩) lef.length lc)).alloc (Obj.cells #[.int .i64 xq, .int .i64 (xp : Int)] 85)).heap[wr.heap.size]? = some (Obj.cells #[.int .i64 xq, .int .i64 (xp : Int)] 85)) := by
      have := World.alloc_heap_new (wr.setCell ⟨F, 0, none⟩ (.slice (some ⟨g, 0, none⟩) lef.length lc)) (Obj.cells #[.int .i64 xq, .int .i64 (xp : Int)] 85)
      rwa [show (wr.setCell ⟨F, 0, none⟩ (.slice (some ⟨g, 0, none⟩) lef.length lc)).heap.size = wr.heap.size by simp [World.setCell]] at this
    clear hxb HIN hFF
    gi_wp2
    obtain ⟨Xb, hXb⟩ : ∃ X, X = wr.heap.size := ⟨_, rfl⟩
    rw [← hXb] at HB01 ⊢
    clear cF fF cT q0 q1 hba hFl cFa fFa hXb
    generalize (wr.setCell ⟨F, 0, none⟩ (.slice (some ⟨g, 0, none⟩) lef.length lc)).alloc (Obj.cells #[.int .i64 xq, .int .i64 (xp : Int)] 85) = W2 at *
    refine ⟨trivial, ?_⟩
    have HBL : Hid (∀ L left v W, AlMem w0.heap.size w (.slice fA fr.length fc) F (F + 1) (F + 1 + 1) L left v W → Below w0.heap.size w0 W) := fun L left v W h =>
      HB0.out.grown h.grown hlow (fun k hk => (HFR.out.lt k hk).1)
    have HXO : Hid (SpOk a row (xq, xp)) := HXB.out.elim (HSP.out _) (HINb.out.met.ok _)
    have hlF : w0.heap.size ≤ F := by have := HFF.out; omega
    have HSAN : Hid (∀ L left v W, AlMem w0.heap.size w (.slice fA fr.length fc) F (F + 1) (F + 1 + 1) L left v W → Sane w0.heap.size [F + 1] [F] W) := fun L left v W h =>
      sane_box h.box h.fr hlF fun k hk => by rw [List.mem_singleton.1 hk]; have := h.map.lt; omega
    refine (callsIn_wide.2 (steps_ a A B C D ca cb cc cr K V back row xq xp W2 (HK.out.below (HBL.out _ _ _ _ HINb.out.mem)) HXO.out.2.2 hr)).mono ?_
    rintro e w3 ⟨X3, Y3, Z3, rfl, hX3, hY3, hZ3, hS3, hb3⟩
    have hO3 : Off w0.heap.size [F + 1] [F] W2 w3 := Off.of_below (HSAN.out _ _ _ _ HINb.out.mem) hb3
    have HIN3 : Hid (AlIn a row back w0 w (.slice fA fr.length fc) fr F (F + 1) (F + 1 + 1) (n - 1) (some (xq, xp)) ds L lef (.slice (some ⟨g, 0, none⟩) lef.length lc) w3) := ⟨HINb.out.mem.below hb3, HINb.out.met, HINb.out.marks.off hO3⟩
    have HS3 := Lib.hid hS3
    have HGX : Hid (Good w0.heap.size [F + 1] [F] w3 X3) := Good.new (HSAN.out _ _ _ _ HINb.out.mem) hb3 hX3 hS3.lx
    have HGY : Hid (Good w0.heap.size [F + 1] [F] w3 Y3) := Good.new (HSAN.out _ _ _ _ HINb.out.mem) hb3 hY3 hS3.ly
    have HGZ : Hid (Good w0.heap.size [F + 1] [F] w3 Z3) := Good.new (HSAN.out _ _ _ _ HINb.out.mem) hb3 hZ3 hS3.lz
    clear hX3 hY3 hZ3 hS3 hb3 hO3 HB01
    gi_wp2
    have hM3 := HIN3.out.mem.map.lt
    have hT3 := HIN3.out.mem.t5.lt
    have nb : ∀ k, Good w0.heap.size [F + 1] [F] w3 k → ¬ Bad [w3.heap.size + 1, F + 1] [F] w3 k := fun k hk h => h.of_cons.elim (fun h => by have := hk.lt; omega) hk.not
    refine wp_range_own (gf := 106) (lb := #[.pointer (some ⟨X3, 0, none⟩), .pointer (some ⟨Y3, 0, none⟩), .pointer (some ⟨Z3, 0, none⟩)]) (by omega) rfl (enters_of Try.func106 (by kernel_rfl) rfl)
      (steps_gives a A B C D ca cb cc cr K V X3 Y3 Z3 back row xq xp _ [w3.heap.size + 1, F + 1] [F] w0 w3 HK.out (HBL.out _ _ _ _ HIN3.out.mem) HS3.out (fun k hk => by rw [List.mem_singleton.1 hk]; omega) (nb _ HGX.out) (nb _ HGY.out) (nb _ HGZ.out) HXO.out.2.2 HOS.out HO.out.sl 8 (by omega))
      (fun h1 h2 => h1.trans h2) ?kb ?sane (Below.refl _ _) (fun _ => rfl)
      (fun pre W' => ∃ L left v, Hid (AlR a row back w0 w (.slice fA fr.length fc) fr F (F + 1) (F + 1 + 1) (n - 1) (xq, xp) w3 L left v pre W'))
      (fun _ _ _ => False)
      ?hI ?hIx ?h0
      (fun y a' W' => ∃ Yb, W'.heap[Yb]? = some (Obj.cells #[.int .i64 y.1, .int .i64 (y.2 : Int)] 85) ∧
        a' = { tmps := #[.pointer (some ⟨K, 0, none⟩), .slice fA fr.length fc, undef, .pointer (some ⟨F, 0, none⟩), .map none, .pointer (some ⟨F + 1 + 1, 0, none⟩), .pointer (some ⟨Xb, 0, none⟩), .pointer (some ⟨Yb, 0, none⟩), .map (some (F + 1)), .slice (some ⟨g, 0, none⟩) (lef.length + 1) lc, .int .i64 ((lef.length : Int) + 1), .bool true, .slice (some ⟨g, 0, none⟩) (lef.length + 1) lc, .slice (some ⟨g, 0, none⟩) (lef.length + 1) lc, .int .i64 ((lef.length : Int) + 1), .int .i64 (lef.length : Int), .pointer (some ⟨g, lef.length * 2, none⟩), .agg #[.int .i64 xq, .int .i64 (xp : Int)], .slice (some ⟨g, 0, none⟩) (lef.length + 1) lc, .slice (some ⟨g, 0, none⟩) (lef.length + 1) lc, .int .i64 ((lef.length : Int) + 1), .int .i64 (lef.length : Int), .slice (some ⟨g, 0, none⟩) lef.length lc, .pointer (some ⟨K, 0, none⟩), .agg #[.int .i64 xq, .int .i64 (xp : Int)], .func (.func 106) #[] #[.pointer (some ⟨X3, 0, none⟩), .pointer (some ⟨Y3, 0, none⟩), .pointer (some ⟨Z3, 0, none⟩)], .agg #[.int .i64 y.1, .int .i64 (y.2 : Int)], u27, u28, u29, u30, u31, u32, u33, u34, u35, u36, undef], defers := [] })
      ?hAx ?assign ?body ?done ?stop
    case kb =>
      intro W' r r' h hs
      exact Off.put hs (List.mem_cons_self ..) h rfl rfl
    case sane =>
      intro r
      have h1 : Below w3.heap.size w3 ((w3.alloc (.deferred (some []))).alloc (.loop r)) := ((Below.refl _ _).alloc (Nat.le_refl _) _).alloc (by simp) _
      exact (Off.of_below (HSAN.out _ _ _ _ HIN3.out.mem) h1).sane.cons (by omega) (by simp)
    case hI =>
      rintro pre A' B' rw ⟨L', left', v', h1⟩ hg hrw
      exact ⟨L', left', v', h1.out.mem.own hM3 (by have := HFF.out; omega) hg hrw, h1.out.met, h1.out.off.own (fun k hk => by rw [List.mem_singleton.1 hk]; omega) hg hrw, h1.out.pre, h1.out.hx⟩
    case hIx => exact fun _ s A' B' rw hs _ _ => hs.elim
    case h0 => exact ⟨L, lef, _, HIN3.out.mem, HIN3.out.met, Off.refl (HSAN.out _ _ _ _ HIN3.out.mem), fun y hy => (by cases hy), HXB.out⟩
    case hAx =>
      rintro y a' _ A' B' rw ⟨Yb, h0, h1⟩ hg hrw
      refine ⟨Yb, (hg.block Yb (Array.getElem?_eq_some_iff.1 h0).1 fun e => ?_).trans h0, h1⟩
      obtain ⟨_, o', h2, h3⟩ := hrw _ e.symm
      rw [h0] at h2
      rw [← Option.some.inj h2] at h3
      cases h3
    case assign =>
      rintro l' pre y W' KK ⟨L', left', v', HI'⟩ hKK
      have h1 : Below W'.heap.size W' (W'.alloc (Obj.cells #[.int .i64 y.1, .int .i64 (y.2 : Int)] 85)) := (Below.refl _ _).alloc (Nat.le_refl _) _
      have HP := Lib.hid (hKK { tmps := #[.pointer (some ⟨K, 0, none⟩), .slice fA fr.length fc, undef, .pointer (some ⟨F, 0, none⟩), .map none, .pointer (some ⟨F + 1 + 1, 0, none⟩), .pointer (some ⟨Xb, 0, none⟩), .pointer (some ⟨W'.heap.size, 0, none⟩), .map (some (F + 1)), .slice (some ⟨g, 0, none⟩) (lef.length + 1) lc, .int .i64 ((lef.length : Int) + 1), .bool true, .slice (some ⟨g, 0, none⟩) (lef.length + 1) lc, .slice (some ⟨g, 0, none⟩) (lef.length + 1) lc, .int .i64 ((lef.length : Int) + 1), .int .i64 (lef.length : Int), .pointer (some ⟨g, lef.length * 2, none⟩), .agg #[.int .i64 xq, .int .i64 (xp : Int)], .slice (some ⟨g, 0, none⟩) (lef.length + 1) lc, .slice (some ⟨g, 0, none⟩) (lef.length + 1) lc, .int .i64 ((lef.length : Int) + 1), .int .i64 (lef.length : Int), .slice (some ⟨g, 0, none⟩) lef.length lc, .pointer (some ⟨K, 0, none⟩), .agg #[.int .i64 xq, .int .i64 (xp : Int)], .func (.func 106) #[] #[.pointer (some ⟨X3, 0, none⟩), .pointer (some ⟨Y3, 0, none⟩), .pointer (some ⟨Z3, 0, none⟩)], .agg #[.int .i64 y.1, .int .i64 (y.2 : Int)], u27, u28, u29, u30, u31, u32, u33, u34, u35, u36, undef], defers := [] }
        (W'.alloc (Obj.cells #[.int .i64 y.1, .int .i64 (y.2 : Int)] 85)) ((KeepsOthers.alloc _ _).from _) (KpO.of_below h1) ⟨L', left', v', HI'.out.mem.below h1, HI'.out.met, HI'.out.off.trans (Off.of_below HI'.out.off.sane h1), HI'.out.pre, HI'.out.hx⟩ ⟨W'.heap.size, World.alloc_heap_new _ _, rfl⟩)
      clear HI' hKK h1
      unfold spE
      gi_wp2
      exact HP.out
    case body =>
      rintro l' pre y a' W' hl' hrec ⟨L', left', v', HI'⟩ ⟨Yb, hYb, rfl⟩ hpre
      obtain ⟨lA', lc', rfl⟩ : ∃ A c, v' = .slice A left'.length c := by
        obtain ⟨A', c, h1, h2, _⟩ := own_form HI'.out.mem.fr
        exact ⟨A', c, h1⟩
      obtain ⟨yq, yp⟩ := y
      simp only at hYb ⊢
      have cT := HI'.out.mem.t5.cell
      have y0 : W'.cell? ⟨Yb, 0, none⟩ = some (.int .i64 yq) := by simp [World.cell?, hYb]
      have y1 : W'.cell? ⟨Yb, 1, none⟩ = some (.int .i64 (yp : Int)) := by simp [World.cell?, hYb]
      have hyS : (yq, yp) ∈ succs a row back (xq, xp) := hpre.subset (List.mem_append_right _ (List.mem_singleton.2 rfl))
      have hyO : SpOk a row (yq, yp) := succs_ok HO.out hb HXO.out hyS
      have HYW : Hid (SpW (yq, yp)) := hyO.w HO.out hr
      have HYO := Lib.hid hyO
      have HYS := Lib.hid hyS
      have HLW : Hid (∀ y ∈ L', SpW y) := fun y hy => (HI'.out.met.ok y hy).w HO.out hr
      have HMAP : Hid (MapAt W' (F + 1) L') := HI'.out.mem.map
      have HYB := Lib.hid hYb
      clear hyS hyO hYb hpre
      by_cases hyL : (yq, yp) ∈ L'
      · have HP : Hid (KeepsFrom w3.heap.size W' W' ∧ KpO w0.heap.size [w3.heap.size + 1, F + 1] [F] W' W' ∧ ∃ L left v, Hid (AlR a row back w0 w (.slice fA fr.length fc) fr F (F + 1) (F + 1 + 1) (n - 1) (xq, xp) w3 L left v (pre ++ [(yq, yp)]) W')) :=
          ⟨KeepsFrom.refl _ _, fun hs => Off.refl hs, L', left', _, HI'.out.mem, HI'.out.met, HI'.out.off, fun y hy => (List.mem_append.1 hy).elim (HI'.out.pre y) fun h => by rw [List.mem_singleton.1 h]; exact hyL, HI'.out.hx⟩
        have HC : Hid (∀ c : Int, (setOf oneU (L'.map spKey)).atKey (spKey (yq, yp)) (.lit (.int .i64 0)) = .lit (.int .i64 c) → c = 1) := fun c hc => by
          rw [MapAt.at_ HLW.out HYW.out, if_pos hyL] at hc
          injection hc with e; injection e with _ e; exact e.symm
        clear hyL
        gi_wp2_with (gi_at_lookup; refine wpListIn_lookup_own_int _ rfl _ _ 86 rfl 85 3 .i64 spLaw Try.underlying86 Try.underlying3 (zeroInt _) (F + 1) L'.length (setOf oneU (L'.map spKey)) rfl HMAP.out _ (spKey (yq, yp)) rfl (spKeyOf HYW.out) ?_; intro c hat hwc; obtain rfl := HC.out c hat; clear hat hwc)
        exact HP.out
      · have HC : Hid (∀ c : Int, (setOf oneU (L'.map spKey)).atKey (spKey (yq, yp)) (.lit (.int .i64 0)) = .lit (.int .i64 c) → c = 0) := fun c hc => by
          rw [MapAt.at_ HLW.out HYW.out, if_neg hyL] at hc
          injection hc with e; injection e with _ e; exact e.symm
        have HNL := Lib.hid hyL
        have HII := Lib.hid HI'.out
        have hFm : F < W'.heap.size := HI'.out.mem.box.lt
        have hYl : Yb < W'.heap.size := (Array.getElem?_eq_some_iff.1 HYB.out).1
        have HYM : Hid (Yb ≠ F + 1) := fun e => by
          obtain ⟨es, ck, h1, _⟩ := HMAP.out
          have h2 := HYB.out
          rw [e, h1] at h2
          cases h2
        have hLl : L'.length ≤ 2400000 := by
          have h2 := spot_bound HI'.out.met.nd HI'.out.met.ok
          have h3 := HO.out.st2
          have h4 : spMax a row ≤ 300 * 8000 := Nat.mul_le_mul (by omega) hr
          omega
        clear hyL HI'
        gi_wp2_with (first
          | (gi_at_lookup; refine wpListIn_lookup_own_int _ rfl _ _ 86 rfl 85 3 .i64 spLaw Try.underlying86 Try.underlying3 (zeroInt _) (F + 1) L'.length (setOf oneU (L'.map spKey)) rfl HMAP.out _ (spKey (yq, yp)) rfl (spKeyOf HYW.out) ?_; intro c hat hwc; obtain rfl := HC.out c hat; clear hat hwc)
          | (gi_at_mapUpdate; refine wpListIn_mapUpdate_own _ rfl _ _ _ 86 rfl 85 3 spLaw Try.underlying86 _ (F + 1) L'.length (setOf oneU (L'.map spKey)) rfl HMAP.out (by unfold maxLen; omega) _ _ (spKey (yq, yp)) rfl rfl (spKeyOf HYW.out) oneU [] (plainElem_int Try.underlying3 (by decide)) ?_
             intro w4 hown4 hgrow4
             have HM4 := Lib.hid (HII.out.mem.map1 (by have := HFF.out; omega) (by omega) (by omega) hgrow4 (MapAt.step hown4) (fun y hy => List.mem_append_left _ hy))
             have HG4 := Lib.hid hgrow4
             have cF4 := HM4.out.box.cell
             have HYB4 : Hid (w4.heap[Yb]? = some (Obj.cells #[.int .i64 yq, .int .i64 (yp : Int)] 85)) := (hgrow4.block Yb hYl (fun e => HYM.out (by simpa using e))).trans HYB.out
             have z0 : w4.cell? ⟨Yb, 0, none⟩ = some (.int .i64 yq) := by simp [World.cell?, HYB4.out]
             have z1 : w4.cell? ⟨Yb, 1, none⟩ = some (.int .i64 (yp : Int)) := by simp [World.cell?, HYB4.out]
             have hb5 : Below w4.heap.size w4 (w4.alloc (Obj.cells #[.int .i64 yq, .int .i64 (yp : Int)] 85)) := (Below.refl _ _).alloc (Nat.le_refl _) _
             have HM5 := Lib.hid (HM4.out.below hb5)
             have hlo5 : w0.heap.size ≤ (w4.alloc (Obj.cells #[.int .i64 yq, .int .i64 (yp : Int)] 85)).heap.size := by have := hb5.size; have := hgrow4.size; have := HFF.out; omega
             have hll5 : left'.length ≤ 10000000 := by have := HII.out.met.len; omega
             have HG5 : Hid (W'.heap.size ≤ w4.heap.size ∧ ∀ k, k < W'.heap.size → k ≠ F + 1 → (w4.alloc (Obj.cells #[.int .i64 yq, .int .i64 (yp : Int)] 85)).heap[k]? = W'.heap[k]?) := ⟨hgrow4.size, fun k hk hne => (hb5.block k (Nat.lt_of_lt_of_le hk hgrow4.size)).trans (hgrow4.block k hk (by simpa using hne))⟩
             have HG6 : Hid ((w4.alloc (Obj.cells #[.int .i64 yq, .int .i64 (yp : Int)] 85)).os = W'.os ∧ (w4.alloc (Obj.cells #[.int .i64 yq, .int .i64 (yp : Int)] 85)).tape = W'.tape ∧ (w4.alloc (Obj.cells #[.int .i64 yq, .int .i64 (yp : Int)] 85)).output = W'.output) := ⟨hgrow4.os, hgrow4.tape, hgrow4.output⟩
             clear hown4 hgrow4 hb5)
          | (gi_at_builtin; refine wpListIn_app_sp (lo := w0.heap.size) (v := .slice lA' left'.length lc') (left := left') (y := (yq, yp)) (B := w4.heap.size) rfl (.tmp 33) (.tmp 35) rfl rfl rfl HM5.out.fr (World.alloc_heap_new _ _) hll5 hlo5 ?_
             intro v6 W6 hfr6 hg6 hat6 hrow6
             obtain ⟨g6, c6, rfl⟩ := ownsRow_succ (k := left'.length) (by have := hfr6; unfold FromIs at this; rw [List.length_append] at this; exact this)
             obtain ⟨hbx6, hm6⟩ := AlMem.app (by have := HFF.out; omega) (by omega) (by omega) HM5.out hfr6 hg6 (by simpa using hat6) hrow6 (by simp)
             have cF6 := hbx6.cell
             have fF6 := hbx6.frozen
             have HP : Hid (KeepsFrom w3.heap.size W' (W6.setCell ⟨F, 0, none⟩ (.slice (some ⟨g6, 0, none⟩) (left'.length + 1) c6)) ∧ KpO w0.heap.size [w3.heap.size + 1, F + 1] [F] W' (W6.setCell ⟨F, 0, none⟩ (.slice (some ⟨g6, 0, none⟩) (left'.length + 1) c6)) ∧ ∃ L left v, Hid (AlR a row back w0 w (.slice fA fr.length fc) fr F (F + 1) (F + 1 + 1) (n - 1) (xq, xp) w3 L left v (pre ++ [(yq, yp)]) (W6.setCell ⟨F, 0, none⟩ (.slice (some ⟨g6, 0, none⟩) (left'.length + 1) c6)))) := by
               have hO : Off w0.heap.size [F + 1] [F] W' (W6.setCell ⟨F, 0, none⟩ (.slice (some ⟨g6, 0, none⟩) (left'.length + 1) c6)) := by
                 refine HII.out.mem.off hm6 hlF (fun k hk => by rw [List.mem_singleton.1 hk]; have := HII.out.mem.map.lt; omega) (List.mem_singleton.2 rfl) (hg6.os.trans HG6.out.1) (hg6.tape.trans HG6.out.2.1) (hg6.output.trans HG6.out.2.2) (Nat.le_trans HG5.out.1 (Nat.le_trans (by simp) (Nat.le_trans hg6.size (grownBy_setCell' W6 F _).size))) (fun k hk h3 h4 h5 => ?_) (hat6.imp id fun h => fun r hr => by rw [h] at hr; have := HG5.out.1; simp at hr; omega)
                 have hk5 : k < (w4.alloc (Obj.cells #[.int .i64 yq, .int .i64 (yp : Int)] 85)).heap.size := by have := HG5.out.1; simp; omega
                 exact (Below.heap_setCell _ _ _ _ h4).trans ((hg6.block k hk5 (fun e => h5 e.symm)).trans (HG5.out.2 k hk h3))
               exact ⟨hO.keeps HII.out.off.sane (fun k hk => by rw [List.mem_singleton.1 hk]; omega) (fun k hk => by rw [List.mem_singleton.1 hk]; omega), fun hs => hO.cons (by omega) (hs.bad _ (.inl (List.mem_cons_self ..))).2,
                 _, _, _, hm6, HII.out.met.add HII.out.hx HYS.out HYO.out HNL.out, HII.out.off.trans hO, fun y hy => (List.mem_append.1 hy).elim (fun h => List.mem_append_left _ (HII.out.pre y h)) (fun h => List.mem_append_right _ h), HII.out.hx.imp id (List.mem_append_left _)⟩
             clear hbx6 hm6 hfr6 hg6 hat6 hrow6))
        exact HP.out
    case done =>
      rintro Dm W' hDm ⟨L', left', v', HI'⟩ hD
      have HINE : Hid (AlIn a row back w0 w (.slice fA fr.length fc) fr F (F + 1) (F + 1 + 1) (n - 1) none ({ target := .collected Dm, args := #[] } :: ds) L' left' v' W') := by
        refine ⟨HI'.out.mem, HI'.out.met.shut fun y hy => HI'.out.pre y hy, ?_⟩
        obtain ⟨Ds, rfl, h2, h3⟩ := HIN3.out.marks
        refine ⟨Dm :: Ds, rfl, List.nodup_cons.2 ⟨fun hm => ?_, h2⟩, fun D' hm => ?_⟩
        · have := (h3 Dm hm).2.1.lt
          omega
        · rcases List.mem_cons.1 hm with rfl | hm
          · refine ⟨by omega, ⟨(Array.getElem?_eq_some_iff.1 hD).1, fun hb => ?_⟩, hD⟩
            rcases (bad_box HI'.out.mem.box).1 hb with h4 | h4 | h4
            · have := List.mem_singleton.1 h4
              omega
            · omega
            · obtain ⟨ob, h5, h6⟩ := own_cells HI'.out.mem.fr h4
              rw [hD] at h5
              rw [← Option.some.inj h5] at h6
              cases h6
          · obtain ⟨a1, a2, a3⟩ := h3 D' hm
            exact ⟨a1, a2.off HI'.out.off, (HI'.out.off.block D' a2.lt a2.not).trans a3⟩
      clear HI'
      gi_wp2
      exact ⟨n - 1, by omega, _, _, _, _, _, _, _, _, _, _, _, _, _, _, _, _, _, _, _, _, _, _, _, _, _, _, _, _, _, _, _, L', left', v', rfl, HINE.out⟩
    case stop => exact fun _ _ _ _ _ _ h => h.elim
end Go.Proofs.Ytoglgeaiiipchaa
