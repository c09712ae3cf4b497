/- Walker.all's memory between two rounds: what has been met, what is left. -/
import Derived.Test.YtoglgeaiiipchaaSp
import Derived.Test.YtoglgeaiiipchaaWSt2
namespace Go.Proofs.Ytoglgeaiiipchaa
open Go Go.RowKit Go.Maps Go.Shelf

def SpOk (a : Au) (row : List Int) (y : Int × Nat) : Prop := 0 ≤ y.1 ∧ y.1 < a.st ∧ y.2 < row.length
theorem SpOk.w {a : Au} (ho : AuOK a) {row : List Int} (hr : row.length ≤ 8000) {y : Int × Nat} (h : SpOk a row y) : SpW y := by
  obtain ⟨h1, h2, h3⟩ := h
  have := ho.st2
  exact ⟨WalkArith.wf_i64 (by omega), WalkArith.wf_i64 (by omega)⟩
/-- the place behind a place -/
def nxt (row : List Int) (back p : Nat) : Nat := if p + 1 = row.length then back else p + 1
/-- the spots that a spot leads to -/
def succs (a : Au) (row : List Int) (back : Nat) (x : Int × Nat) : List (Int × Nat) := spotNext a row x.1 x.2 (nxt row back x.2) (stepsFrom a x.1)
theorem succs_ok {a : Au} (ho : AuOK a) {row : List Int} {back : Nat} (hb : back < row.length) {x y : Int × Nat} (hx : SpOk a row x) (h : y ∈ succs a row back x) : SpOk a row y := by
  unfold succs spotNext at h
  obtain ⟨s, hs, rfl⟩ := List.mem_map.1 h
  have h1 := (List.mem_filter.1 (List.mem_filter.1 hs).1).1
  have h2 := (ho.sr s h1).2.1
  refine ⟨h2.1, h2.2, ?_⟩
  show nxt row back x.2 < _
  have := hx.2.2
  unfold nxt
  split <;> omega
def SpE (a : Au) (row : List Int) (back : Nat) (x y : Int × Nat) : Prop := y ∈ succs a row back x
/-- how many spots there are -/
def spMax (a : Au) (row : List Int) : Nat := a.st.toNat * row.length
theorem nodup_bound : ∀ (n : Nat) (L : List Nat), L.Nodup → (∀ x ∈ L, x < n) → L.length ≤ n
  | 0, [], _, _ => Nat.le_refl _
  | 0, x :: L, _, h => absurd (h x (List.mem_cons_self ..)) (by omega)
  | n + 1, L, hn, h => by
    have h1 := nodup_bound n (L.filter (· ≠ n)) (hn.filter _) (fun x hx => by
      obtain ⟨h2, h3⟩ := List.mem_filter.1 hx
      have := h x h2
      simp at h3
      omega)
    have h2 : L.length ≤ (L.filter (· ≠ n)).length + 1 := by
      by_cases hm : n ∈ L
      · have he : L.erase n = L.filter (· ≠ n) := by
          have := hn.erase_eq_filter n
          rw [this]
          congr 1
          funext x
          by_cases hx : x = n <;> simp [hx, bne]
        rw [← he, List.length_erase_of_mem hm]
        omega
      · rw [List.filter_eq_self.2 (fun x hx => by simp; rintro rfl; exact hm hx)]
        omega
    omega
theorem modl {q R p : Nat} (h : p < R) : (q * R + p) % R = p := by rw [Nat.mul_comm, Nat.mul_add_mod, Nat.mod_eq_of_lt h]
theorem spot_bound {a : Au} {row : List Int} {L : List (Int × Nat)} (hn : L.Nodup) (h : ∀ y ∈ L, SpOk a row y) : L.length ≤ spMax a row := by
  have := nodup_bound (spMax a row) (L.map fun y => y.1.toNat * row.length + y.2) (List.pairwise_map.2 (hn.imp_of_mem fun {y z} hy hz hne he => hne (by
      obtain ⟨h1, _, h3⟩ := h y hy
      obtain ⟨k1, _, k3⟩ := h z hz
      have e1 : (y.1.toNat * row.length + y.2) % row.length = (z.1.toNat * row.length + z.2) % row.length := by rw [he]
      rw [modl h3, modl k3] at e1
      have e2 : y.1.toNat * row.length = z.1.toNat * row.length := by omega
      have e3 := Nat.eq_of_mul_eq_mul_right (show 0 < row.length by omega) e2
      exact Prod.ext (by omega) e1))) (fun x hx => by
    obtain ⟨y, hy, rfl⟩ := List.mem_map.1 hx
    obtain ⟨h1, h2, h3⟩ := h y hy
    have h4 := Nat.mul_le_mul_right row.length (show y.1.toNat + 1 ≤ a.st.toNat by omega)
    unfold spMax
    rw [Nat.succ_mul] at h4
    omega)
  simpa using this

/-- what has been met, and what is left -/
structure Met (a : Au) (row : List Int) (back : Nat) (fr L left : List (Int × Nat)) (n : Nat) (op : Option (Int × Nat)) : Prop where
  nd : L.Nodup
  ok : ∀ y ∈ L, SpOk a row y
  lok : ∀ y ∈ left, y ∈ fr ∨ y ∈ L
  sound : ∀ y ∈ L, ∃ x ∈ fr, Plus (SpE a row back) x y
  closed : ∀ z, z ∈ fr ∨ z ∈ L → z ∈ left ∨ some z = op ∨ ∀ y, SpE a row back z y → y ∈ L
  len : left.length ≤ fr.length + L.length
  meas : 2 * (spMax a row - L.length) + left.length ≤ n
theorem Met.start (a : Au) (row : List Int) (back : Nat) (fr : List (Int × Nat)) : Met a row back fr [] fr (2 * spMax a row + fr.length) none :=
  ⟨.nil, fun y h => (by cases h), fun y h => .inl h, fun y h => (by cases h), fun z h => .inl (h.elim id fun h => (by cases h)), by simp, by simp⟩
theorem Met.pop {a : Au} {row : List Int} {back n : Nat} {fr L left : List (Int × Nat)} {x : Int × Nat} (h : Met a row back fr L (left ++ [x]) n none) : Met a row back fr L left (n - 1) (some x) ∧ 0 < n := by
  have h1 := h.meas
  have h2 := h.len
  rw [List.length_append, List.length_cons, List.length_nil] at h1 h2
  refine ⟨⟨h.nd, h.ok, fun y hy => h.lok y (List.mem_append_left _ hy), h.sound, fun z hz => ?_, by omega, by omega⟩, by omega⟩
  rcases h.closed z hz with h3 | h3 | h3
  · rcases List.mem_append.1 h3 with h4 | h4
    · exact .inl h4
    · exact .inr (.inl (by rw [List.mem_singleton.1 h4]))
  · cases h3
  · exact .inr (.inr h3)
theorem Met.add {a : Au} {row : List Int} {back n : Nat} {fr L left : List (Int × Nat)} {x y : Int × Nat} (h : Met a row back fr L left n (some x)) (hx : x ∈ fr ∨ x ∈ L) (hy : SpE a row back x y) (hok : SpOk a row y) (hL : y ∉ L) :
    Met a row back fr (L ++ [y]) (left ++ [y]) n (some x) := by
  have hnd : (L ++ [y]).Nodup := List.nodup_append.2 ⟨h.nd, by simp, fun u hu v hv e => hL (by rw [← List.mem_singleton.1 hv, ← e]; exact hu)⟩
  have hok' : ∀ z ∈ L ++ [y], SpOk a row z := fun z hz => (List.mem_append.1 hz).elim (h.ok z) fun h1 => by rw [List.mem_singleton.1 h1]; exact hok
  have hb := spot_bound hnd hok'
  have h1 := h.meas
  have h2 := h.len
  rw [List.length_append, List.length_cons, List.length_nil] at hb
  refine ⟨hnd, hok', fun z hz => ?_, fun z hz => ?_, fun z hz => ?_, by simp; omega, by simp; omega⟩
  · rcases List.mem_append.1 hz with h3 | h3
    · exact (h.lok z h3).imp id (List.mem_append_left _)
    · exact .inr (List.mem_append_right _ h3)
  · rcases List.mem_append.1 hz with h3 | h3
    · exact h.sound z h3
    · rw [List.mem_singleton.1 h3]
      rcases hx with h4 | h4
      · exact ⟨x, h4, .one hy⟩
      · obtain ⟨f, hf, hp⟩ := h.sound x h4
        exact ⟨f, hf, hp.on hy⟩
  · have : (z ∈ fr ∨ z ∈ L) ∨ z = y := by
      rcases hz with h3 | h3
      · exact .inl (.inl h3)
      · exact (List.mem_append.1 h3).elim (fun h4 => .inl (.inr h4)) fun h4 => .inr (List.mem_singleton.1 h4)
    rcases this with h3 | rfl
    · rcases h.closed z h3 with h4 | h4 | h4
      · exact .inl (List.mem_append_left _ h4)
      · exact .inr (.inl h4)
      · exact .inr (.inr fun u hu => List.mem_append_left _ (h4 u hu))
    · exact .inl (by simp)
theorem Met.shut {a : Au} {row : List Int} {back n : Nat} {fr L left : List (Int × Nat)} {x : Int × Nat} (h : Met a row back fr L left n (some x)) (hc : ∀ y ∈ succs a row back x, y ∈ L) : Met a row back fr L left n none := by
  refine ⟨h.nd, h.ok, h.lok, h.sound, fun z hz => ?_, h.len, h.meas⟩
  rcases h.closed z hz with h1 | h1 | h1
  · exact .inl h1
  · exact .inr (.inr fun y hy => hc y (by rw [← Option.some.inj h1]; exact hy))
  · exact .inr (.inr h1)
theorem Met.done {a : Au} {row : List Int} {back n : Nat} {fr L : List (Int × Nat)} (h : Met a row back fr L [] n none) (y : Int × Nat) : y ∈ L ↔ ∃ x ∈ fr, Plus (SpE a row back) x y := by
  refine ⟨h.sound y, ?_⟩
  rintro ⟨x, hx, hp⟩
  have key : ∀ z, z ∈ fr ∨ z ∈ L → ∀ y, SpE a row back z y → y ∈ L := fun z hz => (h.closed z hz).elim (fun h => (by cases h)) fun h => h.elim (fun h => (by cases h)) id
  induction hp with
  | one h1 => exact key x (.inl hx) _ h1
  | on _ h1 ih => exact key _ (.inr ih) _ h1

/-! ### in memory -/
theorem box_cell0 {W : World} {F : Nat} {t : TypeId} {v u : Value} (h : Boxed W F t v) {o : Nat} (hc : W.cell? ⟨F, o, none⟩ = some u) : u = v := by
  simp only [World.cell?, show W.heap[F]? = _ from h] at hc
  cases o with
  | zero => simpa using hc.symm
  | succ o => simp at hc
theorem bad_box {Ms : List Nat} {W : World} {F k : Nat} {t : TypeId} {v : Value} (h : Boxed W F t v) : Bad Ms [F] W k ↔ k ∈ Ms ∨ k = F ∨ v.ownBlock = some k := by
  unfold Bad
  refine or_congr Iff.rfl (or_congr List.mem_singleton ⟨?_, fun hv => ?_⟩)
  · rintro ⟨F', hF, o, ad, n, c, hc, rfl⟩
    obtain rfl := List.mem_singleton.1 hF
    rw [← box_cell0 h hc]
    rfl
  · cases v <;> simp only [Value.ownBlock] at hv <;> try (cases hv; done)
    rename_i A n c
    cases A with
    | none => cases hv
    | some ad => exact ⟨F, List.mem_singleton.2 rfl, 0, ad, n, c, h.cell, by simpa [Value.ownBlock] using hv⟩
theorem own_cells {W : World} {base : Nat} {e : TypeId} {size n : Nat} {v : Value} {xs : List Value} (h : W.ownsRow base e size v n xs) {r : Nat} (hr : v.ownBlock = some r) : ∃ ob, W.heap[r]? = some ob ∧ ob.isCells = true := by
  rcases h.2 with ⟨rfl, _⟩ | ⟨g, cap, cur, rfl, _, hg, _⟩
  · cases hr
  · obtain rfl : g = r := by simpa [Value.ownBlock] using hr
    exact ⟨_, hg, rfl⟩
theorem sane_box {Ms : List Nat} {lo : Nat} {W : World} {F n size : Nat} {t e : TypeId} {v : Value} {xs : List Value} (h : Boxed W F t v) (hown : W.ownsRow lo e size v n xs) (hF : lo ≤ F) (hM : ∀ k ∈ Ms, lo ≤ k ∧ k < W.heap.size) : Sane lo Ms [F] W := by
  refine ⟨fun k hk => ?_, fun F' hF' o ad m c hc => ?_⟩
  · rcases (bad_box h).1 hk with h1 | rfl | h1
    · exact hM k h1
    · exact ⟨hF, h.lt⟩
    · exact hown.lt k h1
  · obtain rfl := List.mem_singleton.1 hF'
    exact own_cells hown (by rw [← box_cell0 h hc]; rfl)
/-- a variable with an own row, and some blocks, have been turned -/
theorem off_box {Ms : List Nat} {lo : Nat} {W W' : World} {F n' size : Nat} {t e : TypeId} {v v' : Value} {xs' : List Value} (h : Boxed W F t v) (h' : Boxed W' F t v') (hown' : W'.ownsRow lo e size v' n' xs') (hF : lo ≤ F) (hM : ∀ k ∈ Ms, lo ≤ k ∧ k < W.heap.size)
    (hos : W'.os = W.os) (htape : W'.tape = W.tape) (hout : W'.output = W.output) (hsz : W.heap.size ≤ W'.heap.size)
    (hb : ∀ k, k < W.heap.size → k ∉ Ms → k ≠ F → v.ownBlock ≠ some k → W'.heap[k]? = W.heap[k]?) (hat : v'.ownBlock = v.ownBlock ∨ ∀ r, v'.ownBlock = some r → W.heap.size ≤ r) : Off lo Ms [F] W W' := by
  refine ⟨hos, htape, hout, hsz, fun k hk hn => hb k hk (fun h1 => hn (.inl h1)) (fun h1 => hn (.inr (.inl (by rw [h1]; exact List.mem_singleton.2 rfl)))) (fun h1 => hn ((bad_box h).2 (.inr (.inr h1)))), fun k hk => ?_,
    sane_box h' hown' hF fun k hk => ⟨(hM k hk).1, Nat.lt_of_lt_of_le (hM k hk).2 hsz⟩⟩
  rcases (bad_box h').1 hk with h1 | h1 | h1
  · exact .inl (.inl h1)
  · exact .inl (.inr (.inl (by rw [h1]; exact List.mem_singleton.2 rfl)))
  · rcases hat with h2 | h2
    · exact .inl ((bad_box h).2 (.inr (.inr (by rw [← h2]; exact h1))))
    · exact .inr (h2 k h1)

/-- walker.all's memory; w: the world of the call; fv: the slice handed in -/
structure AlMem (lo : Nat) (w : World) (fv : Value) (F M T : Nat) (L left : List (Int × Nat)) (v : Value) (W : World) : Prop where
  grown : w.grownBy W fv.ownBlock
  box : Boxed W F 83 v
  fr : FromIs W lo v left
  loc : v.ownBlock = fv.ownBlock ∨ ∀ r, v.ownBlock = some r → w.heap.size ≤ r
  map : MapAt W M L
  t5 : Boxed W T 86 (.map (some M))
  row : ∀ r n S, RowIn w r n S → (∀ y ∈ L, S y) → RowIn W r n S
variable {lo F M T : Nat} {w W W' : World} {fv v : Value} {L left : List (Int × Nat)}
theorem AlMem.below (h : AlMem lo w fv F M T L left v W) (hb : Below W.heap.size W W') : AlMem lo w fv F M T L left v W' := by
  have hg : W.grownBy W' none := ⟨hb.os, hb.tape, hb.output, hb.size, fun k hk _ => hb.block k hk⟩
  refine ⟨⟨hb.os.trans h.grown.os, hb.tape.trans h.grown.tape, hb.output.trans h.grown.output, Nat.le_trans h.grown.size hb.size, fun k hk hn => (hb.block k (Nat.lt_of_lt_of_le hk h.grown.size)).trans (h.grown.block k hk hn)⟩,
    h.box.kept hg (by simp), own_below h.fr hb, h.loc, h.map.below hb, h.t5.kept hg (by simp), fun r n S hr hs => (h.row r n S hr hs).heap (hb.block r (h.row r n S hr hs).lt)⟩
theorem AlMem.own {n : Nat} (hM : M < n) (hw : w.heap.size ≤ n) {row : Option Nat} (h : AlMem lo w fv F M T L left v W) (hg : W.grownBy W' row) (hr : ∀ r, row = some r → n ≤ r ∧ ∃ o : Obj, W.heap[r]? = some o ∧ o.isCells = false) : AlMem lo w fv F M T L left v W' := by
  have cl : ∀ {k : Nat} {o : Obj}, W.heap[k]? = some o → o.isCells = true → some k ≠ row := fun hk ho e => by
    obtain ⟨_, o', h1, h2⟩ := hr _ e.symm
    rw [hk] at h1
    rw [← Option.some.inj h1, ho] at h2
    cases h2
  have nm : some M ≠ row := fun e => by have := (hr M e.symm).1; omega
  refine ⟨⟨hg.os.trans h.grown.os, hg.tape.trans h.grown.tape, hg.output.trans h.grown.output, Nat.le_trans h.grown.size hg.size, fun k hk hn => (hg.block k (Nat.lt_of_lt_of_le hk h.grown.size) fun e => by have := (hr k e.symm).1; omega).trans (h.grown.block k hk hn)⟩,
    h.box.kept hg (cl h.box rfl), ?_, h.loc, World.ownsMap.kept h.map hg nm, h.t5.kept hg (cl h.t5 rfl), fun r n S h1 h2 => ?_⟩
  · refine World.ownsRow.kept h.fr hg ?_
    cases hv : v.ownBlock with
    | none => exact .inl rfl
    | some r =>
      obtain ⟨ob, h1, h2⟩ := own_cells h.fr hv
      exact .inr (cl h1 h2)
  · obtain ⟨cur, h3, h4⟩ := h.row r n S h1 h2
    exact RowIn.heap ⟨cur, h3, h4⟩ (hg.block r (Array.getElem?_eq_some_iff.1 h3).1 (cl h3 rfl))
theorem AlMem.set {u : Value} {left' : List (Int × Nat)} (hF : w.heap.size ≤ F) (hFM : F ≠ M) (hFT : F ≠ T) (h : AlMem lo w fv F M T L left v W) (hu : FromIs W lo u left') (hloc : u.ownBlock = v.ownBlock) : AlMem lo w fv F M T L left' u (W.setCell ⟨F, 0, none⟩ u) := by
  have hg := grownBy_setCell' W F u
  refine ⟨⟨h.grown.os, h.grown.tape, h.grown.output, Nat.le_trans h.grown.size hg.size, fun k hk hn => (hg.block k (Nat.lt_of_lt_of_le hk h.grown.size) fun e => by simp at e; omega).trans (h.grown.block k hk hn)⟩,
    h.box.set u, World.ownsRow.kept hu hg (.inr (h.box.not_row (by decide) hu).symm), by rw [hloc]; exact h.loc, World.ownsMap.kept h.map hg (by simpa using hFM.symm), h.t5.kept hg (by simpa using hFT.symm), fun r n S h1 h2 => ?_⟩
  obtain ⟨cur, h3, h4⟩ := h.row r n S h1 h2
  refine RowIn.heap ⟨cur, h3, h4⟩ (hg.block r (Array.getElem?_eq_some_iff.1 h3).1 fun e => ?_)
  obtain rfl : r = F := by simpa using e
  have := (show W.heap[r]? = _ from h.box).symm.trans h3
  simp at this
theorem AlMem.map1 {W1 : World} {L1 : List (Int × Nat)} (hM : w.heap.size ≤ M) (hFM : F ≠ M) (hTM : T ≠ M) (h : AlMem lo w fv F M T L left v W) (hg : W.grownBy W1 (some M)) (hm : MapAt W1 M L1) (hL : ∀ y ∈ L, y ∈ L1) : AlMem lo w fv F M T L1 left v W1 := by
  obtain ⟨es, ck, hmb, _⟩ : ∃ es ck, W.heap[M]? = some (.map es ck) ∧ True := by obtain ⟨es, ck, h1, _⟩ := h.map; exact ⟨es, ck, h1, trivial⟩
  refine ⟨⟨hg.os.trans h.grown.os, hg.tape.trans h.grown.tape, hg.output.trans h.grown.output, Nat.le_trans h.grown.size hg.size, fun k hk hn => (hg.block k (Nat.lt_of_lt_of_le hk h.grown.size) fun e => by simp at e; omega).trans (h.grown.block k hk hn)⟩,
    h.box.kept hg (by simpa using hFM), World.ownsRow.kept h.fr hg ?_, h.loc, hm, h.t5.kept hg (by simpa using hTM), fun r n S h1 h2 => ?_⟩
  · cases hv : v.ownBlock with
    | none => exact .inl rfl
    | some r =>
      obtain ⟨ob, h1, h2⟩ := own_cells h.fr hv
      refine .inr fun e => ?_
      obtain rfl : r = M := by simpa using e
      rw [hmb] at h1
      rw [← Option.some.inj h1] at h2
      cases h2
  · have h3 := h.row r n S h1 fun y hy => h2 y (hL y hy)
    refine h3.heap (hg.block r h3.lt fun e => ?_)
    obtain rfl : r = M := by simpa using e
    obtain ⟨cur, h4, _⟩ := h3
    rw [hmb] at h4
    cases h4
theorem AlMem.app {W3 : World} {v3 : Value} {y : Int × Nat} (hF : w.heap.size ≤ F) (hFM : F ≠ M) (hFT : F ≠ T) (h : AlMem lo w fv F M T L left v W) (hfr : FromIs W3 lo v3 (left ++ [y])) (hg : W.grownBy W3 v.ownBlock)
    (hat : v3.ownBlock = v.ownBlock ∨ v3.ownBlock = some W.heap.size) (hrow : ∀ r n S, RowIn W r n S → S y → RowIn W3 r n S) (hy : y ∈ L) :
    Boxed W3 F 83 v ∧ AlMem lo w fv F M T L (left ++ [y]) v3 (W3.setCell ⟨F, 0, none⟩ v3) := by
  have hb3 : Boxed W3 F 83 v := h.box.kept hg (h.box.not_row (by decide) h.fr)
  have hg3 := grownBy_setCell' W3 F v3
  have hvM : some M ≠ v.ownBlock := fun e => by
    obtain ⟨ob, h1, h2⟩ := own_cells h.fr e.symm
    obtain ⟨es, ck, h3, _⟩ := h.map
    rw [h3] at h1
    rw [← Option.some.inj h1] at h2
    cases h2
  have hm3 : MapAt W3 M L := World.ownsMap.kept h.map hg hvM
  refine ⟨hb3, ⟨⟨hg.os.trans h.grown.os, hg.tape.trans h.grown.tape, hg.output.trans h.grown.output, Nat.le_trans h.grown.size (Nat.le_trans hg.size hg3.size), fun k hk hn => ?_⟩, hb3.set v3, World.ownsRow.kept hfr hg3 (.inr (hb3.not_row (by decide) hfr).symm), ?_, World.ownsMap.kept hm3 hg3 (by simpa using hFM.symm), (h.t5.kept hg (h.t5.not_row (by decide) h.fr)).kept hg3 (by simpa using hFT.symm), fun r n S h1 h2 => ?_⟩⟩
  · have hkW := Nat.lt_of_lt_of_le hk h.grown.size
    refine (hg3.block k (Nat.lt_of_lt_of_le hkW hg.size) fun e => by simp at e; omega).trans ((hg.block k hkW fun e => ?_).trans (h.grown.block k hk hn))
    rcases h.loc with h1 | h1
    · exact hn (e.trans h1)
    · have := h1 k e.symm; omega
  · rcases hat with h1 | h1
    · rw [h1]; exact h.loc
    · exact .inr fun r hr => by rw [h1] at hr; have := h.grown.size; simp at hr; omega
  · have h3 := hrow r n S (h.row r n S h1 h2) (h2 y hy)
    refine h3.heap (hg3.block r h3.lt fun e => ?_)
    obtain rfl : r = F := by simpa using e
    obtain ⟨cur, h4, _⟩ := h3
    have := (show W3.heap[r]? = _ from hb3).symm.trans h4
    simp at this
/-- a step from one such memory to another is one that rounds may do -/
theorem AlMem.off {W' : World} {v' : Value} {L' left' : List (Int × Nat)} {Ms : List Nat} (h : AlMem lo w fv F M T L left v W) (h' : AlMem lo w fv F M T L' left' v' W') (hF : lo ≤ F) (hM : ∀ k ∈ Ms, lo ≤ k ∧ k < W.heap.size) (hMm : M ∈ Ms)
    (hos : W'.os = W.os) (htape : W'.tape = W.tape) (hout : W'.output = W.output) (hsz : W.heap.size ≤ W'.heap.size)
    (hb : ∀ k, k < W.heap.size → k ≠ M → k ≠ F → v.ownBlock ≠ some k → W'.heap[k]? = W.heap[k]?) (hat : v'.ownBlock = v.ownBlock ∨ ∀ r, v'.ownBlock = some r → W.heap.size ≤ r) : Off lo Ms [F] W W' :=
  off_box h.box h'.box h'.fr hF hM hos htape hout hsz (fun k hk h1 h2 h3 => hb k hk (fun e => h1 (by rw [e]; exact hMm)) h2 h3) hat
/-- the append at the operation, within a fence -/
theorem wpListIn_app_sp {Fn : Fence} {n : Nat} {ops : Array Oper} {rest : List Oper} {o : Oper} {a : Act} {Q : Exit → Act → World → Prop} (hgd : o.guard = none) (s x : Operand)
    (ho : o.op = .call { callee := .builtin .append, args := #[s, x], argTypes := #[83, 83] }) {y : Int × Nat} {B : Nat} (hs : a.eval s = v) (hx : a.eval x = .slice (some ⟨B, 0, none⟩) 1 1)
    (hown : FromIs W lo v left) (hB : W.heap[B]? = some (.cells #[.int .i64 y.1, .int .i64 (y.2 : Int)] 85 (0, 0))) (hl : left.length ≤ 10000000) (hlo : lo ≤ W.heap.size)
    (h : ∀ v' W', FromIs W' lo v' (left ++ [y]) → W.grownBy W' v.ownBlock → (v'.ownBlock = v.ownBlock ∨ v'.ownBlock = some W.heap.size) → (∀ r n S, RowIn W r n S → S y → RowIn W' r n S) → wpListIn Fn n Try.prog ops Q rest (a.put o.dst v') W') :
    wpListIn Fn n Try.prog ops Q (o :: rest) a W := by
  refine wpListIn_plain hgd fun K' hK' => ?_
  obtain ⟨v', W', hrun, h1, h2, h3, h4⟩ := run_append_sp o.type hown hB hl hlo
  unfold Oper.wpIn
  refine ⟨by simp [Oper.about, ho, resolve, Target.leads, Sem.run_pure], ?_⟩
  rw [Oper.semAt_plain Fn _ _ (by rw [ho]; intro c hc'; cases hc')]
  simp [execOp, ho, resolve, invoke, builtin, hs, hx, hrun, Result.andThen]
  exact hK' _ _ (h v' W' h1 h2 h3 h4)
end Go.Proofs.Ytoglgeaiiipchaa
