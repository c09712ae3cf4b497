/- Walks: slices.Contains of ints; what Word asks of a state. -/
import Derived.Test.YtoglgeaiiipchaaLBTM30
import Derived.Test.YtoglgeaiiipchaaLBTM14
import Derived.Test.YtoglgeaiiipchaaLBTM6
set_option linter.unusedSimpArgs false
set_option linter.unusedVariables false
namespace Go.Proofs.Ytoglgeaiiipchaa
open Go Go.RowKit Go.Maps Go.Shelf

structure FnC (lo Q M R : Nat) (D : List (Int × Stp)) (left : List Int) (v : Value) (W : World) : Prop where
  box : Boxed W Q 24 v
  q : QOwn W lo v left
  by_ : ByAt W M D
  res : ∃ r, Boxed W R 3 (.int .i64 r)
  lQ : lo ≤ Q
  lM : lo ≤ M
  lR : lo ≤ R
  qr : v.ownBlock ≠ some R
section
variable {lo Q M R : Nat} {D D' : List (Int × Stp)} {left left' : List Int} {v v' : Value} {W W' : World}
theorem FnC.QM (h : FnC lo Q M R D left v W) : Q ≠ M := by
  rintro rfl
  obtain ⟨es, c, h1⟩ := h.by_.block
  have h2 : W.heap[Q]? = _ := h.box
  rw [h1] at h2; cases h2
theorem FnC.RM (h : FnC lo Q M R D left v W) : R ≠ M := by
  rintro rfl
  obtain ⟨es, c, h1⟩ := h.by_.block
  obtain ⟨r, h3⟩ := h.res
  have h2 : W.heap[R]? = _ := h3
  rw [h1] at h2; cases h2
theorem FnC.QR (h : FnC lo Q M R D left v W) : Q ≠ R := by
  rintro rfl
  obtain ⟨r, h3⟩ := h.res
  have h2 : W.heap[Q]? = _ := h3
  have h1 : W.heap[Q]? = _ := h.box
  rw [h1] at h2; simp at h2
theorem FnC.nM (h : FnC lo Q M R D left v W) : v.ownBlock ≠ some M := fun e => by
  obtain ⟨cur, h1⟩ := h.q.cells e
  obtain ⟨es, c, h2⟩ := h.by_.block
  rw [h1] at h2; cases h2
theorem FnC.nQ (h : FnC lo Q M R D left v W) : v.ownBlock ≠ some Q := fun e => by
  obtain ⟨cur, h1⟩ := h.q.cells e
  have h2 : W.heap[Q]? = _ := h.box
  rw [h1] at h2; simp at h2
theorem FnC.bad (h : FnC lo Q M R D left v W) {k : Nat} : Bad [M, R] [Q] W k ↔ k = M ∨ k = R ∨ k = Q ∨ v.ownBlock = some k := by
  rw [bad_box h.box]
  simp only [List.mem_cons, List.not_mem_nil, or_false, or_assoc]
theorem FnC.sane (h : FnC lo Q M R D left v W) : Sane lo [M, R] [Q] W := by
  refine ⟨fun k hk => ?_, fun F' hF' o ad m c hc => ?_⟩
  · rcases h.bad.1 hk with rfl | rfl | rfl | h1
    · exact ⟨h.lM, h.by_.lt⟩
    · obtain ⟨r, h3⟩ := h.res; exact ⟨h.lR, h3.lt⟩
    · exact ⟨h.lQ, h.box.lt⟩
    · exact h.q.lt k h1
  · obtain rfl := List.mem_singleton.1 hF'
    obtain ⟨cur, h1⟩ := h.q.cells (r := ad.block) (by rw [← box_cell0 h.box hc]; rfl)
    exact ⟨_, h1, rfl⟩
theorem FnC.off (h : FnC lo Q M R D left v W) (h' : FnC lo Q M R D' left' v' W') (hos : W'.os = W.os) (htape : W'.tape = W.tape) (hout : W'.output = W.output) (hsz : W.heap.size ≤ W'.heap.size)
    (hb : ∀ k, k < W.heap.size → k ≠ M → k ≠ R → k ≠ Q → v.ownBlock ≠ some k → W'.heap[k]? = W.heap[k]?) (hat : v'.ownBlock = v.ownBlock ∨ ∀ r, v'.ownBlock = some r → W.heap.size ≤ r) : Off lo [M, R] [Q] W W' := by
  refine ⟨hos, htape, hout, hsz, fun k hk hn => ?_, fun k hk => ?_, h'.sane⟩
  · rw [h.bad] at hn
    exact hb k hk (fun e => hn (.inl e)) (fun e => hn (.inr (.inl e))) (fun e => hn (.inr (.inr (.inl e)))) (fun e => hn (.inr (.inr (.inr e))))
  · rw [h.bad]
    rcases h'.bad.1 hk with h1 | h1 | h1 | h1
    · exact .inl (.inl h1)
    · exact .inl (.inr (.inl h1))
    · exact .inl (.inr (.inr (.inl h1)))
    · rcases hat with h2 | h2
      · exact .inl (.inr (.inr (.inr (by rw [← h2]; exact h1))))
      · exact .inr (h2 k h1)
theorem FnC.heap (h : FnC lo Q M R D left v W) (hm : W'.heap[M]? = W.heap[M]?) (hr : W'.heap[R]? = W.heap[R]?) (hq : W'.heap[Q]? = W.heap[Q]?) (hv : ∀ k, v.ownBlock = some k → W'.heap[k]? = W.heap[k]?) : FnC lo Q M R D left v W' := by
  obtain ⟨r, h3⟩ := h.res
  refine ⟨hq.trans h.box, h.q.heap hv, ?_, ⟨r, hr.trans h3⟩, h.lQ, h.lM, h.lR, h.qr⟩
  obtain ⟨es, c, b1, b2⟩ := h.by_
  exact ⟨es, c, hm.trans b1, b2⟩
theorem FnC.on (h : FnC lo Q M R D left v W) (hb : Below W.heap.size W W') : FnC lo Q M R D left v W' := by
  obtain ⟨r, h3⟩ := h.res
  exact h.heap (hb.block _ h.by_.lt) (hb.block _ h3.lt) (hb.block _ h.box.lt) (fun k hk => hb.block k (h.q.lt k hk).2)
theorem FnC.own {row : Option Nat} (h : FnC lo Q M R D left v W) (hg : W.grownBy W' row) (hr : ∀ r, row = some r → M < r ∧ ∃ o : Obj, W.heap[r]? = some o ∧ o.isCells = false) : FnC lo Q M R D left v W' := by
  obtain ⟨r, h3⟩ := h.res
  have cl : ∀ {k : Nat} {o : Obj}, W.heap[k]? = some o → o.isCells = true → W'.heap[k]? = W.heap[k]? := fun {k o} hk ho => hg.block k (Array.getElem?_eq_some_iff.1 hk).1 (fun e => by
    obtain ⟨_, o', h1, h2⟩ := hr k e.symm
    rw [hk] at h1
    rw [← Option.some.inj h1, ho] at h2
    cases h2)
  refine h.heap (hg.block M h.by_.lt fun e => by have := (hr M e.symm).1; omega) (cl h3 rfl) (cl h.box rfl) (fun k hk => ?_)
  obtain ⟨cur, h1⟩ := h.q.cells hk
  exact cl h1 rfl
/-- the queue turned -/
theorem FnC.set {u : Value} (h : FnC lo Q M R D left v W) (hu : QOwn W lo u left') (hb : u.ownBlock = v.ownBlock) : FnC lo Q M R D left' u (W.setCell ⟨Q, 0, none⟩ u) := by
  obtain ⟨r, h3⟩ := h.res
  have far : ∀ k, k ≠ Q → (W.setCell ⟨Q, 0, none⟩ u).heap[k]? = W.heap[k]? := fun k hk => Below.heap_setCell _ _ _ _ hk
  refine ⟨h.box.set u, hu.heap fun k hk => far k (fun e => h.nQ (by rw [← hb, hk, e])), ?_, ⟨r, (far R h.QR.symm).trans h3⟩, h.lQ, h.lM, h.lR, by rw [hb]; exact h.qr⟩
  obtain ⟨es, c, b1, b2⟩ := h.by_
  exact ⟨es, c, (far M h.QM.symm).trans b1, b2⟩
/-- the map turned -/
theorem FnC.put (h : FnC lo Q M R D left v W) (hm : ByAt W' M D') (hg : W.grownBy W' (some M)) : FnC lo Q M R D' left v W' := by
  obtain ⟨r, h3⟩ := h.res
  have far : ∀ k, k < W.heap.size → k ≠ M → W'.heap[k]? = W.heap[k]? := fun k hk hn => hg.block k hk (by simpa using hn)
  exact ⟨(far Q h.box.lt h.QM).trans h.box, h.q.heap fun k hk => far k (h.q.lt k hk).2 (fun e => h.nM (by rw [hk, e])), hm, ⟨r, (far R h3.lt h.RM).trans h3⟩, h.lQ, h.lM, h.lR, h.qr⟩
/-- appended to, and laid back -/
theorem FnC.app {v3 : Value} {W3 : World} {y : Int} (h : FnC lo Q M R D left v W) (hq : QOwn W3 lo v3 (left ++ [y])) (hg : W.grownBy W3 v.ownBlock) (hat : v3.ownBlock = v.ownBlock ∨ v3.ownBlock = some W.heap.size) :
    Boxed W3 Q 24 v ∧ FnC lo Q M R D (left ++ [y]) v3 (W3.setCell ⟨Q, 0, none⟩ v3) := by
  obtain ⟨r, h3⟩ := h.res
  have kp : ∀ k, k < W.heap.size → v.ownBlock ≠ some k → W3.heap[k]? = W.heap[k]? := fun k hk hn => hg.block k hk (fun e => hn e.symm)
  have hb3 : Boxed W3 Q 24 v := (kp Q h.box.lt h.nQ).trans h.box
  have far : ∀ k, k ≠ Q → (W3.setCell ⟨Q, 0, none⟩ v3).heap[k]? = W3.heap[k]? := fun k hk => Below.heap_setCell _ _ _ _ hk
  have hQl := h.box.lt
  have hRl := h3.lt
  have n3 : ∀ k, k < W.heap.size → v.ownBlock ≠ some k → v3.ownBlock ≠ some k := fun k hk hn e => by
    rcases hat with h4 | h4
    · exact hn (by rw [← h4]; exact e)
    · rw [h4] at e; have := Option.some.inj e; omega
  refine ⟨hb3, hb3.set v3, hq.heap fun k hk => far k (fun e => n3 Q hQl h.nQ (by rw [hk, e])), ?_, ⟨r, (far R h.QR.symm).trans ((kp R hRl h.qr).trans h3)⟩, h.lQ, h.lM, h.lR, n3 R hRl h.qr⟩
  obtain ⟨es, c, b1, b2⟩ := h.by_
  exact ⟨es, c, (far M h.QM.symm).trans ((kp M (Array.getElem?_eq_some_iff.1 b1).1 h.nM).trans b1), b2⟩
theorem FnC.setR (h : FnC lo Q M R D left v W) (r : Int) : FnC lo Q M R D left v (W.setCell ⟨R, 0, none⟩ (.int .i64 r)) ∧ Boxed (W.setCell ⟨R, 0, none⟩ (.int .i64 r)) R 3 (.int .i64 r) ∧ Off lo [M, R] [Q] W (W.setCell ⟨R, 0, none⟩ (.int .i64 r)) := by
  obtain ⟨r0, hr0⟩ := h.res
  have far : ∀ k, k ≠ R → (W.setCell ⟨R, 0, none⟩ (.int .i64 r)).heap[k]? = W.heap[k]? := fun k hk => Below.heap_setCell _ _ _ _ hk
  have hb2 : ByAt (W.setCell ⟨R, 0, none⟩ (.int .i64 r)) M D := by
    obtain ⟨es, c, x1, x2⟩ := h.by_
    exact ⟨es, c, (far _ h.RM.symm).trans x1, x2⟩
  have hC : FnC lo Q M R D left v (W.setCell ⟨R, 0, none⟩ (.int .i64 r)) := ⟨(far _ h.QR).trans h.box, h.q.heap fun k hk => far k (fun e => h.qr (by rw [hk, e])), hb2, ⟨r, hr0.set _⟩, h.lQ, h.lM, h.lR, h.qr⟩
  exact ⟨hC, hr0.set _, h.off hC rfl rfl rfl (by simp [World.setCell]) (fun k _ _ h2 _ _ => far k h2) (.inl rfl)⟩
theorem FnC.good_obj {l : Nat} {o : Obj} (h : FnC lo Q M R D left v W) (hl : W.heap[l]? = some o) (ho : o.isCells = false) (hm : l ≠ M) : Good lo [M, R] [Q] W l := by
  refine ⟨(Array.getElem?_eq_some_iff.1 hl).1, fun hb => ?_⟩
  obtain ⟨r, h3⟩ := h.res
  have no : ∀ {ob : Obj}, W.heap[l]? = some ob → ob.isCells = true → False := fun h1 h2 => by
    rw [hl] at h1
    rw [← Option.some.inj h1, ho] at h2
    cases h2
  rcases h.bad.1 hb with h1 | rfl | rfl | h1
  · exact hm h1
  · exact no h3 rfl
  · exact no h.box rfl
  · obtain ⟨cur, a1⟩ := h.q.cells h1; exact no a1 rfl
end
/-- the marks of loops that have ended, laid from block b on -/
def MarksF (lo b : Nat) (Ms Fs : List Nat) (W : World) (ds : List Deferred) : Prop := ∃ Ds : List Nat, ds = Ds.map (fun D => { target := .collected D, args := #[] }) ∧ Ds.Nodup ∧ ∀ D ∈ Ds, b ≤ D ∧ Good lo Ms Fs W D ∧ W.heap[D]? = some (.deferred (some []))
theorem MarksF.nil (lo b : Nat) (Ms Fs : List Nat) (W : World) : MarksF lo b Ms Fs W [] := ⟨[], rfl, .nil, fun D h => by cases h⟩
theorem MarksF.off {lo b : Nat} {Ms Fs : List Nat} {W W' : World} {ds : List Deferred} (h : MarksF lo b Ms Fs W ds) (ho : Off lo Ms Fs W W') : MarksF lo b Ms Fs W' ds := by
  obtain ⟨Ds, h1, h2, h3⟩ := h
  exact ⟨Ds, h1, h2, fun D hD => by obtain ⟨a1, a2, a3⟩ := h3 D hD; exact ⟨a1, a2.off ho, (ho.block D a2.lt a2.not).trans a3⟩⟩
theorem MarksF.marks {lo b : Nat} {Ms Fs : List Nat} {W : World} {ds : List Deferred} (h : MarksF lo b Ms Fs W ds) : Marks b W ds := by
  obtain ⟨Ds, h1, h2, h3⟩ := h
  exact ⟨Ds, h1, h2, fun D hD => ⟨(h3 D hD).1, (h3 D hD).2.2⟩⟩
theorem MarksF.cons {lo b Dm : Nat} {Ms Fs : List Nat} {W W' : World} {ds : List Deferred} (h : MarksF lo b Ms Fs W ds) (ho : Off lo Ms Fs W W') (hD : W.heap.size ≤ Dm) (hb : b ≤ Dm) (hg : Good lo Ms Fs W' Dm) (hd : W'.heap[Dm]? = some (.deferred (some []))) :
    MarksF lo b Ms Fs W' ({ target := .collected Dm, args := #[] } :: ds) := by
  obtain ⟨Ds, rfl, h2, h3⟩ := h
  refine ⟨Dm :: Ds, rfl, List.nodup_cons.2 ⟨fun hm => ?_, h2⟩, fun D' hm => ?_⟩
  · have := (h3 Dm hm).2.1.lt
    omega
  · rcases List.mem_cons.1 hm with rfl | hm
    · exact ⟨hb, hg, hd⟩
    · obtain ⟨a1, a2, a3⟩ := h3 D' hm
      exact ⟨a1, a2.off ho, (ho.block D' a2.lt a2.not).trans a3⟩
end Go.Proofs.Ytoglgeaiiipchaa

namespace Go.Proofs.Ytoglgeaiiipchaa
open Go Go.RowKit Go.Sort

def FbPost (w : World) (b : Bool) (e : Ending) (w' : World) : Prop := e = .returned (.bool b) ∧ w' = w
def IxPost (w : World) (xs : List Int) (x : Int) (e : Ending) (w' : World) : Prop := ∃ r : Int, e = .returned (.int .i64 r) ∧ (0 ≤ r ↔ x ∈ xs) ∧ w' = w
set_option maxRecDepth 100000 in
theorem Index_ (A : Option Addr) (c : Nat) (xs : List Int) (x : Int) (w : World) (h : Ints w 0 A c xs) : Calls Try.prog 131 #[.slice A xs.length c, .int .i64 x] w (IxPost w xs x) := by
  have hle := h.le
  have hcp := h.cap
  have HI := Lib.hid h
  clear h
  go_enter Try.func131, Try.ntmps131
  go_wp2_with fail
  go_loopw [5, 8] (fun _ v8 wr => ∃ k : Nat, k ≤ xs.length ∧ v8 = .int .i64 (k : Int) ∧ Hid (wr = w) ∧ Hid (x ∉ xs.take k)) (fun _ v8 _ => xs.length - (intOf v8).toNat)
  case atStart => exact ⟨0, Nat.zero_le _, rfl, rfl, by show _ ∉ _; simp⟩
  case round =>
    obtain ⟨k, hk, rfl, HW, HN⟩ := hrel
    obtain rfl := HW.out
    by_cases hkl : k < xs.length
    · have q1 : (k : Int) < (xs.length : Int) := by omega
      obtain ⟨b, o, rfl, _, _, y0⟩ := Ints.at_ HI.out hkl
      by_cases hx : x = xs[k]
      · have hx1 : (x == xs[k]) = true := by simp [hx]
        have HP : Hid (IxPost wr xs x (.returned (.int .i64 (k : Int))) wr) := ⟨k, rfl, ⟨fun _ => by rw [hx]; exact List.getElem_mem hkl, fun _ => by omega⟩, rfl⟩
        clear hx
        generalize xs[k] = y at *
        go_wp2_with fail
        go_ret
        exact HP.out
      · have hx1 : (x == xs[k]) = false := by simp [hx]
        have HN2 : Hid (x ∉ xs.take (k + 1)) := by
          show _ ∉ _
          rw [List.take_succ_eq_append_getElem hkl, List.mem_append, List.mem_singleton]
          rintro (h | h)
          · exact HN.out h
          · exact hx h
        have HX := Lib.hid hkl
        clear hx
        generalize xs[k] = y at *
        go_wp2_with fail
        go_roundw
        case rel => exact ⟨k + 1, HX.out, by go_num, trivial, HN2.out⟩
        case measure => simp [intOf]; have := HX.out; omega
    · have q1 : ¬ (k : Int) < (xs.length : Int) := by omega
      have HP : Hid (IxPost wr xs x (.returned (.int .i64 (-1))) wr) := ⟨-1, rfl, ⟨fun h => by omega, fun h => absurd h (by have := HN.out; rwa [List.take_of_length_le (by omega)] at this)⟩, rfl⟩
      go_wp2_with fail
      go_ret
      exact HP.out
theorem Contains_ (A : Option Addr) (c : Nat) (xs : List Int) (x : Int) (w : World) (h : Ints w 0 A c xs) : Calls Try.prog 115 #[.slice A xs.length c, .int .i64 x] w (FbPost w (decide (x ∈ xs))) := by
  have HI := Lib.hid (Index_ A c xs x w h)
  go_enter Try.func115, Try.ntmps115
  go_wp2_with fail
  refine HI.out.mono ?_
  rintro e w2 ⟨r, rfl, hr, rfl⟩
  have HP : Hid (FbPost w2 (decide (x ∈ xs)) (.returned (.bool (decide (0 ≤ r)))) w2) := ⟨by rw [decide_eq_decide.2 hr], rfl⟩
  clear hr
  go_wp2_with fail
  go_ret
  exact HP.out
/-- is it a first one? -/
theorem first_ (a : Au) (A B C : Option Addr) (ca cb cc V : Nat) (n : Int) (w : World) (hV : AuAt w V a A B C ca cb cc) (hf : Ints w 0 A ca a.fs) : Calls Try.prog 114 #[.int .i64 n, .pointer (some ⟨V, 0, none⟩)] w (FbPost w (decide (n ∈ a.fs))) := by
  have HC := Lib.hid (Contains_ A ca a.fs n w hf)
  obtain ⟨_, c0, c1, c2, c3, c4⟩ := hV
  clear hf
  go_enter Try.func114, Try.ntmps114
  go_wp2_with fail
  refine HC.out.mono ?_
  rintro e w2 ⟨rfl, rfl⟩
  clear c0 c1 c2 c3 c4 HC
  have HP : Hid (FbPost w2 (decide (n ∈ a.fs)) (.returned (.bool (decide (n ∈ a.fs)))) w2) := ⟨rfl, rfl⟩
  go_wp2_with fail
  go_ret
  exact HP.out
/-- is it this one? -/
theorem is_ (n k : Int) (X : Nat) (w : World) (hX : w.cell? ⟨X, 0, none⟩ = some (.int .i64 n)) : Calls Try.prog 116 #[.int .i64 k, .pointer (some ⟨X, 0, none⟩)] w (FbPost w (k == n)) := by
  have HP : Hid (FbPost w (k == n) (.returned (.bool (k == n))) w) := ⟨rfl, rfl⟩
  generalize hb : (k == n) = b at *
  go_enter Try.func116, Try.ntmps116
  go_wp2_with fail
  go_ret
  exact HP.out
end Go.Proofs.Ytoglgeaiiipchaa
