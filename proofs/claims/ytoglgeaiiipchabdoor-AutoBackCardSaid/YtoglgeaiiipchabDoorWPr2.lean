/- Walks: auto.take at every line; auto.Parse. -/
import Derived.Test.YtoglgeaiiipchabDoorWTq
namespace Go.Proofs.YtoglgeaiiipchabDoor
open Go Go.RowKit Go.Sort

theorem take_ (W0 : World) (G : Nat) (a : Au) (i : Nat) (x : List UInt8) (W : World) (hP : PaM W0 G a W) (hI : Inv a i) (hi : i ≤ 200000) (hL : LaidOK W) (hx : x.length ≤ 99999) (hs : a.ss.length < 200000) :
    Calls Tryd.prog 33 #[.pointer (some ⟨G, 0, none⟩), .int .i64 ((i : Int) + 1), .string (sB x)] W (TkPost W0 G (rdLine a i x)) := by
  match i, hI with
  | 0, hI => obtain rfl : a = nulA := hI; exact take1_ W0 G x W hP hL hx
  | 1, hI => exact take2_ W0 G a x W hP hI.2.2 hL hx
  | 2, hI => exact take3_ W0 G a x W hP hI.1 (by rw [hI.2.1]; simp; have := hI.1; omega) hL hx
  | j + 3, _ => exact take4_ W0 G a (j + 3) x W hP (by omega) hi hL hx hs
/-- what Parse hands back -/
def PaPost (w : World) (r : Au × Nat × Int) (e : Ending) (w' : World) : Prop := ∃ A B C ca cb cc, e = .returned (.tuple #[.agg #[.int .i64 r.1.st, .int .i64 r.1.le, .slice A r.1.fs.length ca, .slice B r.1.gs.length cb, .slice C r.1.ss.length cc], .int .i64 (r.2.1 : Int), .int .i64 r.2.2]) ∧ AuRd w' 0 r.1 A B C ca cb cc ∧ Below w.heap.size w w'
theorem nul_rd (w : World) : AuRd w 0 nulA none none none 0 0 0 := ⟨ints_none _ _, ⟨Nat.le_refl _, by omega, by simp [nulA], Rd.nil⟩, ⟨Nat.le_refl _, by omega, by simp [nulA], Rd.nil⟩⟩
theorem set5_far (w : World) (V : Nat) (v0 v1 v2 v3 v4 : Value) {b : Nat} (h : b ≠ V) : (set5 w V v0 v1 v2 v3 v4).heap[b]? = w.heap[b]? := by
  unfold set5
  rw [Below.heap_setCell _ ⟨V, 4, none⟩ _ _ h, Below.heap_setCell _ ⟨V, 3, none⟩ _ _ h, Below.heap_setCell _ ⟨V, 2, none⟩ _ _ h, Below.heap_setCell _ ⟨V, 1, none⟩ _ _ h, Below.heap_setCell _ ⟨V, 0, none⟩ _ _ h]
theorem set5_size (w : World) (V : Nat) (v0 v1 v2 v3 v4 : Value) : (set5 w V v0 v1 v2 v3 v4).heap.size = w.heap.size := by simp [set5, World.setCell]
theorem Rd.set5_ {w : World} {lo V : Nat} {A : Option Addr} {xs : List Value} (h : Rd w lo A xs) (hV : V < lo) (v0 v1 v2 v3 v4 : Value) : Rd (set5 w V v0 v1 v2 v3 v4) lo A xs := by
  intro hne
  obtain ⟨b, off, hA, hlo, hlt, hc⟩ := h hne
  exact ⟨b, off, hA, hlo, by rw [set5_size]; exact hlt, fun j u hu => (World.cell?_of_block (w := w) (a := ⟨b, off + j, none⟩) (set5_far w V v0 v1 v2 v3 v4 (by show b ≠ V; omega))).trans (hc j u hu)⟩
theorem AuRd.set5_ {w : World} {lo V : Nat} {a : Au} {A B C : Option Addr} {ca cb cc : Nat} (h : AuRd w lo a A B C ca cb cc) (hV : V < lo) (v0 v1 v2 v3 v4 : Value) : AuRd (set5 w V v0 v1 v2 v3 v4) lo a A B C ca cb cc :=
  ⟨⟨h.fs.le, h.fs.cap, h.fs.max, h.fs.rd.set5_ hV _ _ _ _ _⟩, ⟨h.gs.le, h.gs.cap, h.gs.max, h.gs.rd.set5_ hV _ _ _ _ _⟩, ⟨h.ss.le, h.ss.cap, h.ss.max, h.ss.rd.set5_ hV _ _ _ _ _⟩⟩
theorem PaM.rd {W0 : World} {G : Nat} {a : Au} {W : World} (h : PaM W0 G a W) : ∃ A B C ca cb cc, W.heap[G]? = some (.cells #[.int .i64 a.st, .int .i64 a.le, .slice A a.fs.length ca, .slice B a.gs.length cb, .slice C a.ss.length cc] 26 (0, 0)) ∧ AuRd W (G + 1) a A B C ca cb cc := by
  obtain ⟨A, ca, gv, sv, base, o1, o2, o3, o4, o5, o6, o7, o8⟩ := h.obj
  obtain ⟨C, cc, hC, hss⟩ := SlE.of_own (enc := Stp.cells) (bt := 24) o7 (by have := h.sl; omega)
  obtain ⟨rfl, rfl⟩ : sv.1 = C ∧ sv.2 = cc := by simpa using hC
  have o4' : Ints W (G + 1) A ca a.fs := by
    refine ⟨o4.le, o4.cap, o4.max, fun hne => ?_⟩
    obtain ⟨b, off, hA, hlo, hlt, hc⟩ := o4.rd hne
    obtain ⟨b', off', hA', hb1, hb2⟩ := o5 (fun e => hne (by rw [e]; rfl))
    obtain ⟨rfl, rfl⟩ : b' = b ∧ off' = off := by rw [hA] at hA'; simp at hA'; exact ⟨hA'.1.symm, hA'.2.symm⟩
    exact ⟨b', off', hA, by omega, hlt, hc⟩
  rcases o6 with ⟨rfl, hg⟩ | ⟨g, rfl, hg1, _, hr⟩
  · refine ⟨A, none, sv.1, ca, 0, sv.2, by rw [hg]; exact o1, o4', ?_, hss.low (by omega)⟩
    rw [hg]
    exact ⟨Nat.le_refl _, by omega, by simp, Rd.nil⟩
  · exact ⟨A, some ⟨g, 0, none⟩, sv.1, ca, a.gs.length, sv.2, o1, o4', (hr.bools (by have := h.gl; omega)).low (by omega), hss.low (by omega)⟩
theorem retPa {fn : Func} (h : fn.results = #[.cell 2 26, .tmp 3, .tmp 4]) (tmps : Array Value) (w : World) (V : Nat) {v0 v1 v2 v3 v4 x y : Value} (hp : tmps[2]? = some (.pointer (some ⟨V, 0, none⟩))) (hx : tmps[3]? = some x) (hy : tmps[4]? = some y)
    (ho : w.heap[V]? = some (.cells #[v0, v1, v2, v3, v4] 26 (0, 0))) : (results fn tmps).run Tryd.prog w = .ok (.tuple #[.agg #[v0, v1, v2, v3, v4], x, y]) w := by
  obtain ⟨r0, r1, r2, r3, r4, _⟩ := obj5 ho
  simp [results, h, go_sem, hp, hx, hy, r0, r1, r2, r3, r4]
theorem rd_ss {a a' : Au} {i : Nat} {x : List UInt8} (hI : Inv a i) (h : rdLine a i x = some a') : a'.ss.length ≤ a.ss.length + 1 := by
  match i, hI with
  | 0, _ =>
    change hdOf x = some a' at h
    unfold hdOf at h
    split at h
    · split at h
      · split at h
        · split at h
          · obtain rfl := Option.some.inj h; simp
          · cases h
        · cases h
      · cases h
    · cases h
  | 1, _ =>
    change (wordN bFirst x).map _ = some a' at h
    obtain ⟨m, _, rfl⟩ := Option.map_eq_some_iff.1 h
    simp
  | 2, _ =>
    change (match wordN bGood x with | none => none | some l => (goodsOf a.st a.gs (-1) l).map fun g => { a with gs := g }) = some a' at h
    split at h
    · cases h
    · obtain ⟨m, _, rfl⟩ := Option.map_eq_some_iff.1 h
      simp
  | j + 3, _ =>
    change (match undL (splitL 32 x) with | some [f, l, t] => some { a with ss := a.ss ++ [⟨f, l, t⟩] } | _ => none) = some a' at h
    split at h
    · obtain rfl := Option.some.inj h; simp
    · cases h
theorem readA_no {s : List UInt8} {n : Nat} (h : ¬ 100000 < s.length) (hg : rdGo nulA 0 (splitL 10 s) = .inl n) : readA s = (nulA, n, 1) := by unfold readA; rw [if_neg h, hg]
theorem readA_ok {s : List UInt8} {a : Au} (h : ¬ 100000 < s.length) (hg : rdGo nulA 0 (splitL 10 s) = .inr a) : readA s = if ckA a = 0 then (a, 0, 0) else (nulA, 0, ckA a) := by unfold readA; rw [if_neg h, hg]
set_option maxRecDepth 100000 in
set_option maxHeartbeats 4000000 in
theorem Parse_ (s : List UInt8) (w : World) (hL : LaidOK w) : Calls Tryd.prog 14 #[.string (sB s)] w (PaPost w (readA s)) := by
  have hb0 : Below w.heap.size w (w.alloc (Obj.cells #[.int .i64 0, .int .i64 0, .slice none 0 0, .slice none 0 0, .slice none 0 0] 26)) := (Below.refl _ _).alloc (Nat.le_refl _) _
  have HL0 := Lib.hid (hL.below hb0 (Nat.le_refl _))
  have hobj : (w.alloc (Obj.cells #[.int .i64 0, .int .i64 0, .slice none 0 0, .slice none 0 0, .slice none 0 0] 26)).heap[w.heap.size]? = some (.cells #[.int .i64 0, .int .i64 0, .slice none 0 0, .slice none 0 0, .slice none 0 0] 26 (0, 0)) := by
    show (w.heap.push _)[w.heap.size]? = _
    simp
  have hsz : (w.alloc (Obj.cells #[.int .i64 0, .int .i64 0, .slice none 0 0, .slice none 0 0, .slice none 0 0] 26)).heap.size = w.heap.size + 1 := by simp
  go_enter Tryd.func14, Tryd.ntmps14
  go_upto_region 1 with fail
  obtain ⟨R, hR⟩ : ∃ R, R = w.heap.size := ⟨_, rfl⟩
  rw [← hR] at hobj hb0 hsz ⊢
  have HRR := Lib.hid hR
  generalize w.alloc (Obj.cells #[.int .i64 0, .int .i64 0, .slice none 0 0, .slice none 0 0, .slice none 0 0] 26) = W0 at *
  have HZ : Hid (∀ W, Below W0.heap.size W0 W → W.heap[R]? = some (.cells #[.int .i64 0, .int .i64 0, .slice none 0 0, .slice none 0 0, .slice none 0 0] 26 (0, 0))) := fun W h => (h.block R (by omega)).trans hobj
  have HE : Hid (∀ W, Below W0.heap.size W0 W → ∀ v0 v1 v2 v3 v4, Below R w (set5 W R v0 v1 v2 v3 v4)) := fun W h v0 v1 v2 v3 v4 => below_set5 (Below_on hb0 h (by omega)) (Nat.le_refl _) _ _ _ _ _
  have HNUL : Hid (∀ W, Below W0.heap.size W0 W → ∀ (n : Nat) (e : Int), readA s = (nulA, n, e) → PaPost w (readA s) (.returned (.tuple #[zeroA, .int .i64 n, .int .i64 e])) (set5 W R (.int .i64 0) (.int .i64 0) (.slice none 0 0) (.slice none 0 0) (.slice none 0 0))) := fun W h n e hr => by
    rw [hr]
    exact ⟨none, none, none, 0, 0, 0, rfl, nul_rd _, by rw [← HRR.out]; exact HE.out _ h _ _ _ _ _⟩
  have HOW : Hid (∀ W, Below W0.heap.size W0 W → ∀ v0 v1 v2 v3 v4, (set5 W R v0 v1 v2 v3 v4).heap[R]? = some (.cells #[v0, v1, v2, v3, v4] 26 (0, 0))) := fun W h v0 v1 v2 v3 v4 => set5_heap (HZ.out W h) _ _ _ _ _
  have HSZ := Lib.hid hsz
  clear hR hb0 hobj hsz
  by_cases hlen : 100000 < s.length
  · have q1 : (100000 : Int) < ((sB s).size : Int) := by rw [sB_size]; omega
    have HR : Hid (PaPost w (readA s) (.returned (.tuple #[zeroA, .int .i64 0, .int .i64 2])) _) := HNUL.out W0 (Below.refl _ _) 0 2 (by unfold readA; rw [if_pos hlen])
    have HOO := Lib.hid (HOW.out W0 (Below.refl _ _) (.int .i64 0) (.int .i64 0) (.slice none 0 0) (.slice none 0 0) (.slice none 0 0))
    obtain ⟨c0, c1, c2, c3, c4, f0, f1, f2, f3, f4⟩ := obj5 (HZ.out W0 (Below.refl _ _))
    clear hlen
    go_wp2_with fail
    exact bodyPost_ret (retPa Tryd.results14 _ _ R rfl rfl rfl HOO.out) rfl HR.out
  · have q1 : ¬ (100000 : Int) < ((sB s).size : Int) := by rw [sB_size]; omega
    have hP0 := PaM.new W0
    obtain ⟨G, hG⟩ : ∃ G, G = W0.heap.size := ⟨_, rfl⟩
    go_upto_block 0 with fail
    rw [← hG] at hP0 HZ HE HNUL HOW HSZ ⊢
    have HG := Lib.hid hG
    have HP0 := Lib.hid hP0
    have HLL : Hid (∀ W, Below G W0 W → LaidOK W) := fun W h => HL0.out.below h (by rw [hG]; exact Nat.le_refl _)
    clear hG hP0
    generalize W0.alloc (Obj.cells #[.int .i64 0, .int .i64 0, .slice none 0 0, .slice none 0 0, .slice none 0 0] 26) = W1 at *
    have HLE := Lib.hid hlen
    have hsl : s.length ≤ 100000 := by omega
    clear hlen q1
    go_wp2_with fail
    go_loopw [0, 6, 7, 8, 9] (fun v0 v6 _ _ _ wr => ∃ (k : Nat) (a : Au) (r : List UInt8), v0 = .string (sB r) ∧ v6 = .int .i64 (k : Int) ∧ k + r.length ≤ 100000 ∧ a.ss.length ≤ k ∧ Hid (PaM W0 G a wr) ∧ Hid (Inv a k) ∧ Hid (rdGo nulA 0 (splitL 10 s) = rdGo a k (splitL 10 r))) (fun _ v6 _ _ _ _ => 100002 - (intOf v6).toNat)
    case atStart => exact ⟨0, nulA, s, rfl, rfl, by omega, by simp [nulA], HP0.out, rfl, rfl⟩
    case round =>
      obtain ⟨k, a, r, rfl, rfl, hk, hak, HP, HI, HG0⟩ := hrel
      obtain ⟨A, B, C, ca, cb, cc, ho, hrd⟩ := HP.out.rd
      by_cases hex : 3 ≤ k ∧ r = []
      · obtain ⟨h3, rfl⟩ := hex
        have q2 : ¬ (k : Int) < 3 := by omega
        have HGR : Hid (rdGo nulA 0 (splitL 10 s) = .inr a) := HG0.out.trans (if_pos ⟨h3, rfl⟩)
        have HRA := Lib.hid (readA_ok HLE.out HGR.out)
        have HRD := Lib.hid hrd
        have HO := Lib.hid ho
        obtain ⟨c0, c1, c2, c3, c4, f0, f1, f2, f3, f4⟩ := obj5 ho
        clear hrd ho HG0 HGR
        have e1 : (sB []).toList.isEmpty = true := by rw [sB_empty]; rfl
        have HCK := Lib.hid (autoCheck_ a A B C ca cb cc wr (HRD.out.low (Nat.zero_le _)))
        go_wp2_with fail
        refine HCK.out.mono ?_
        rintro e w2 ⟨rfl, hb2⟩
        have HB2 := Lib.hid (Below_on HP.out.below hb2 (Nat.le_of_lt HP.out.lt))
        have hGl := HP.out.lt
        clear c0 c1 c2 c3 c4 f0 f1 f2 f3 f4
        by_cases hck : ckA a = 0
        · have hck1 : (ckA a != 0) = false := by simp [hck]
          obtain ⟨c0, c1, c2, c3, c4, f0, f1, f2, f3, f4⟩ := obj5 ((hb2.block G hGl).trans HO.out)
          obtain ⟨d0, d1, d2, d3, d4, g0, g1, g2, g3, g4⟩ := obj5 (HZ.out w2 HB2.out)
          have HR : Hid (PaPost w (readA s) (.returned (.tuple #[.agg #[.int .i64 a.st, .int .i64 a.le, .slice A a.fs.length ca, .slice B a.gs.length cb, .slice C a.ss.length cc], .int .i64 0, .int .i64 0])) (set5 w2 R (.int .i64 a.st) (.int .i64 a.le) (.slice A a.fs.length ca) (.slice B a.gs.length cb) (.slice C a.ss.length cc))) := by
            rw [HRA.out, if_pos hck]
            exact ⟨A, B, C, ca, cb, cc, rfl, ((HRD.out.below hb2).set5_ (by have := HSZ.out; omega) _ _ _ _ _).low (Nat.zero_le _), by rw [← HRR.out]; exact HE.out _ HB2.out _ _ _ _ _⟩
          have HOO := Lib.hid (HOW.out w2 HB2.out (.int .i64 a.st) (.int .i64 a.le) (.slice A a.fs.length ca) (.slice B a.gs.length cb) (.slice C a.ss.length cc))
          clear hb2 hck
          generalize ckA a = ck at *
          go_wp2_with fail
          exact bodyPost_ret (retPa Tryd.results14 _ _ R rfl rfl rfl HOO.out) rfl HR.out
        · have hck1 : (ckA a != 0) = true := by simp [hck]
          obtain ⟨d0, d1, d2, d3, d4, g0, g1, g2, g3, g4⟩ := obj5 (HZ.out w2 HB2.out)
          have HR : Hid (PaPost w (readA s) (.returned (.tuple #[zeroA, .int .i64 0, .int .i64 (ckA a)])) _) := HNUL.out w2 HB2.out 0 (ckA a) (by rw [HRA.out, if_neg hck])
          have HOO := Lib.hid (HOW.out w2 HB2.out (.int .i64 0) (.int .i64 0) (.slice none 0 0) (.slice none 0 0) (.slice none 0 0))
          clear hb2 hck
          generalize ckA a = ck at *
          go_wp2_with fail
          exact bodyPost_ret (retPa Tryd.results14 _ _ R rfl rfl rfl HOO.out) rfl HR.out
      · have HEX := Lib.hid hex
        clear ho hrd
        have hkk : (k : Int) < 3 ∨ (¬ (k : Int) < 3) ∧ (sB r).toList.isEmpty = false := by
          rcases Nat.lt_or_ge k 3 with h | h
          · exact .inl (by omega)
          · refine .inr ⟨by omega, ?_⟩
            rw [sB_empty]
            have : r ≠ [] := fun e => hex ⟨h, e⟩
            cases r with
            | nil => exact absurd rfl this
            | cons x y => rfl
        have HL2 := Lib.hid (HLL.out _ HP.out.below)
        clear hex
        rcases split_cases 10 r with hno | ⟨p, q, rfl, hp⟩
        · have HCU : Hid (Calls Tryd.prog 32 #[.string (sB r), .string ⟨#[10]⟩] wr fun e w' => e = .returned (.tuple #[.string (sB r), .string (sB []), .bool false]) ∧ Below wr.heap.size wr w') := by
            have := CutS_ r [10] wr HL2.out (by omega)
            rwa [cut_none hno] at this
          have HGR : Hid (rdGo nulA 0 (splitL 10 s) = .inl (k + 1)) := HG0.out.trans (by rw [splitL_none hno]; exact if_neg HEX.out)
          clear hno
          rcases hkk with q2 | ⟨q2, e1⟩
          all_goals
            go_wp2_with fail
            refine HCU.out.mono ?_
            rintro e w2 ⟨rfl, hb2⟩
            have HB2 := Lib.hid (Below_on HP.out.below hb2 (Nat.le_of_lt HP.out.lt))
            obtain ⟨d0, d1, d2, d3, d4, g0, g1, g2, g3, g4⟩ := obj5 (HZ.out w2 HB2.out)
            have HR : Hid (PaPost w (readA s) (.returned (.tuple #[zeroA, .int .i64 ((k : Int) + 1), .int .i64 1])) _) := HNUL.out w2 HB2.out (k + 1) 1 (readA_no HLE.out HGR.out)
            have HOO := Lib.hid (HOW.out w2 HB2.out (.int .i64 0) (.int .i64 0) (.slice none 0 0) (.slice none 0 0) (.slice none 0 0))
            clear hb2
            go_wp2_with fail
            exact bodyPost_ret (retPa Tryd.results14 _ _ R rfl rfl rfl HOO.out) rfl HR.out
        · have HCU : Hid (Calls Tryd.prog 32 #[.string (sB (p ++ 10 :: q)), .string ⟨#[10]⟩] wr fun e w' => e = .returned (.tuple #[.string (sB p), .string (sB q), .bool true]) ∧ Below wr.heap.size wr w') := by
            have := CutS_ (p ++ 10 :: q) [10] wr HL2.out (by omega)
            rwa [cut_at hp] at this
          have HSP : Hid (splitL 10 (p ++ 10 :: q) = p :: splitL 10 q) := splitL_pre q hp
          have hpl : p.length + 1 + q.length + k ≤ 100000 := by simp at hk; omega
          clear hp hk
          rcases hkk with q2 | ⟨q2, e1⟩
          all_goals
            go_wp2_with fail
            refine HCU.out.mono ?_
            rintro e w2 ⟨rfl, hb2⟩
            have HP2 := Lib.hid (HP.out.on hb2)
            have HT : Hid (Calls _ _ _ _ _) := take_ W0 G a k p w2 HP2.out HI.out (by omega) (HLL.out _ HP2.out.below) (by omega) (by omega)
            clear hb2 HP
            go_wp2_with fail
            refine HT.out.mono ?_
            rintro e w3 ⟨hb3, b, rfl, hm⟩
            have HB3 : Hid (Below G W0 w3) := hb3
            clear hb3
            cases hd : rdLine a k p with
            | none =>
              rw [hd] at hm
              have hbf : b = false := hm
              subst hbf
              have HGR : Hid (rdGo nulA 0 (splitL 10 s) = .inl (k + 1)) := HG0.out.trans (by rw [HSP.out]; exact rdGo_fail hd (splitL_ne _ _))
              obtain ⟨d0, d1, d2, d3, d4, g0, g1, g2, g3, g4⟩ := obj5 (HZ.out w3 HB3.out)
              have HR : Hid (PaPost w (readA s) (.returned (.tuple #[zeroA, .int .i64 ((k : Int) + 1), .int .i64 1])) _) := HNUL.out w3 HB3.out (k + 1) 1 (readA_no HLE.out HGR.out)
              have HOO := Lib.hid (HOW.out w3 HB3.out (.int .i64 0) (.int .i64 0) (.slice none 0 0) (.slice none 0 0) (.slice none 0 0))
              clear hm hd
              go_wp2_with fail
              exact bodyPost_ret (retPa Tryd.results14 _ _ R rfl rfl rfl HOO.out) rfl HR.out
            | some a' =>
              rw [hd] at hm
              obtain ⟨hbt, hPM⟩ : b = true ∧ PaM W0 G a' w3 := hm
              subst hbt
              have HPM := Lib.hid hPM
              have HI2 : Hid (Inv a' (k + 1)) := (rd_back HI.out hd).1
              have hss := rd_ss HI.out hd
              have HG1 : Hid (rdGo nulA 0 (splitL 10 s) = rdGo a' (k + 1) (splitL 10 q)) := HG0.out.trans (by rw [HSP.out]; exact rdGo_step hd (splitL_ne _ _))
              clear hPM hd
              go_wp2_with fail
              go_roundw
              case rel => exact ⟨k + 1, a', q, rfl, by go_num, by omega, by omega, HPM.out, HI2.out, HG1.out⟩
              case measure => simp [intOf]; omega
end Go.Proofs.YtoglgeaiiipchabDoor
