/- Walks: the reference's TableOf. -/
import Derived.Test.YtoglgeaiiipchaaWTO
import Derived.Test.YtoglgeaiiipchaaWCat
import Derived.Test.YtoglgeaiiipchaaWHo
import Derived.Deep.RegionLaw
namespace Go.Proofs.Ytoglgeaiiipchaa
open Go Go.RowKit Go.Shelf

theorem own_other {w w' : World} {base : Nat} {e : TypeId} {size n : Nat} {v : Value} {xs : List Value} {row : Option Nat} (h : w.ownsRow base e size v n xs) (hg : w.grownBy w' row) (hne : ∀ g, v.ownBlock = some g → some g ≠ row) : w'.ownsRow base e size v n xs := by
  obtain ⟨h1, h2⟩ := h
  refine ⟨h1, ?_⟩
  rcases h2 with h2 | ⟨g, cap, cur, hv, hg', hh, r⟩
  · exact .inl h2
  · refine .inr ⟨g, cap, cur, hv, hg', ?_, r⟩
    have hlt : g < w.heap.size := by
      rcases Nat.lt_or_ge g w.heap.size with h | h
      · exact h
      · rw [Array.getElem?_eq_none h] at hh; cases hh
    rw [hg.block g hlt (hne g (by rw [hv]; rfl))]
    exact hh
theorem own_diff {w : World} {base base' : Nat} {size size' n n' : Nat} {v v' : Value} {xs xs' : List Value} (h : w.ownsRow base 4 size v n xs) (h' : w.ownsRow base' 37 size' v' n' xs') : ∀ g, v.ownBlock = some g → some g ≠ v'.ownBlock := by
  intro g hg he
  rcases h.2 with ⟨rfl, _⟩ | ⟨g1, c1, cur1, rfl, _, hh1, _⟩
  · simp [Value.ownBlock] at hg
  · rcases h'.2 with ⟨rfl, _⟩ | ⟨g2, c2, cur2, rfl, _, hh2, _⟩
    · simp [Value.ownBlock] at he
    · simp [Value.ownBlock] at hg he
      subst hg
      subst he
      rw [hh1] at hh2
      simp at hh2
/-- a table whose rows may have room behind them -/
structure OwnT (w : World) (lo : Nat) (v : Value) (rows : List (List Bool)) (vs : List Value) : Prop where
  own : w.ownsRow lo 37 1 v rows.length vs
  len : vs.length = rows.length
  row : ∀ (k : Nat) (h : k < rows.length) (h' : k < vs.length), w.ownsRow lo 4 1 vs[k] rows[k].length (rows[k].map Value.bool)
theorem OwnT.below {w w' : World} {lo : Nat} {v : Value} {rows : List (List Bool)} {vs : List Value} (h : OwnT w lo v rows vs) (hb : Below w.heap.size w w') : OwnT w' lo v rows vs :=
  ⟨own_below h.own hb, h.len, fun k hk hk' => own_below (h.row k hk hk') hb⟩
theorem OwnT.rows {w : World} {lo : Nat} {T : Option Addr} {tc : Nat} {rows : List (List Bool)} {vs : List Value} (h : OwnT w lo (.slice T rows.length tc) rows vs) (hn : rows.length ≤ 1000000) (hr : ∀ r ∈ rows, r.length ≤ 1000000) :
    RowsAt w T tc rows := by
  obtain ⟨A, c, hv, h1, h2, h3, _⟩ := own_form h.own
  simp only [Value.slice.injEq, true_and] at hv
  obtain ⟨rfl, rfl⟩ := hv
  refine ⟨h1, h2, hn, fun k hk => ?_⟩
  have hkg : k < vs.length := by rw [h.len]; exact hk
  obtain ⟨b, off, hA, _, hb, hc⟩ := h3 (by intro e; rw [e] at hkg; simp at hkg)
  obtain ⟨A', c', hv', g1, g2, g3, _⟩ := own_form (h.row k hk hkg)
  refine ⟨b, off, hA, hb, A', c', by rw [hc k vs[k] (List.getElem?_eq_getElem hkg), hv'], g1, g2, ?_, ?_⟩
  · have := hr _ (List.getElem_mem hk); omega
  · rw [flatMap_bool]; exact g3.low (Nat.zero_le _)
theorem OwnT.push {w w' : World} {lo : Nat} {v v' u : Value} {rows : List (List Bool)} {row : List Bool} {vs : List Value} (h : OwnT w lo v rows vs) (hu : w.ownsRow lo 4 1 u row.length (row.map Value.bool))
    (ho : w'.ownsRow lo 37 1 v' (rows.length + 1) (vs ++ [u])) (hg : w.grownBy w' v.ownBlock) : OwnT w' lo v' (rows ++ [row]) (vs ++ [u]) := by
  refine ⟨by simpa using ho, by simp [h.len], fun k hk hk' => ?_⟩
  rcases Nat.lt_or_ge k vs.length with h1 | h1
  · rw [List.getElem_append_left h1, List.getElem_append_left (by rw [← h.len]; exact h1)]
    exact own_other (h.row k (by rw [← h.len]; exact h1) h1) hg (own_diff (h.row k (by rw [← h.len]; exact h1) h1) h.own)
  · have hk1 : k = vs.length := by simp at hk'; omega
    subst hk1
    have e1 : (vs ++ [u])[vs.length]'hk' = u := by simp
    have e2 : (rows ++ [row])[vs.length]'hk = row := by rw [List.getElem_append_right (by rw [h.len]; exact Nat.le_refl _)]; simp
    rw [e1, e2]
    exact own_other hu hg (own_diff hu h.own)

def OfTPost (w : World) (rows : List (List Bool)) (e : Ending) (w' : World) : Prop := ∃ v vs, e = .returned v ∧ OwnT w' w.heap.size v rows vs ∧ Below w.heap.size w w'
/-- the world in which TableOf has laid its lasso -/
def oftW (w : World) (A B : Option Addr) (ca cb : Nat) (l : La) : World := w.alloc (Obj.cells #[Value.slice A l.h.length ca, Value.slice B l.l.length cb] 26)
structure OftW (w W : World) (A B : Option Addr) (ca cb : Nat) (l : La) : Prop where
  below : Below w.heap.size w W
  size : w.heap.size < W.heap.size
  l0 : W.cell? ⟨w.heap.size, 0, none⟩ = some (.slice A l.h.length ca)
  l1 : W.cell? ⟨w.heap.size, 1, none⟩ = some (.slice B l.l.length cb)
theorem oftW_is (w : World) (A B : Option Addr) (ca cb : Nat) (l : La) : OftW w (oftW w A B ca cb l) A B ca cb l := by
  unfold oftW
  refine ⟨by go_grown, by simp, ?_, ?_⟩ <;> go_simp
theorem OwnT.low {w : World} {lo lo' : Nat} {v : Value} {rows : List (List Bool)} {vs : List Value} (h : OwnT w lo v rows vs) (hl : lo' ≤ lo) : OwnT w lo' v rows vs :=
  ⟨own_low h.own hl, h.len, fun k hk hk' => own_low (h.row k hk hk') hl⟩
/-- the rows so far -/
def OfTInv (W0 : World) (rows : List (List Bool)) (v : Value) (W : World) : Prop := ∃ T tc vs, v = .slice T rows.length tc ∧ OwnT W W0.heap.size v rows vs ∧ Below W0.heap.size W0 W
theorem nodeRow_take {l : La} {rows : List (List Bool)} {x : Nd} {p : Nat} (hp : p < l.n) : (rowOf l rows x).take (p + 1) = (rowOf l rows x).take p ++ [nodeVal l rows x p] := by
  have h : p < (rowOf l rows x).length := by rw [length_rowOf]; exact hp
  rw [List.take_succ_eq_append_getElem h]
  congr 1
  simp [rowOf]

set_option maxRecDepth 100000 in
set_option maxHeartbeats 2000000 in
theorem TableOf_ (F : Option Addr) (fc : Nat) (f : List Nd) (A B : Option Addr) (ca cb : Nat) (l : La) (w : World) (hf : Nds w 0 F fc f) (hh : Ints w 0 A ca l.h) (hl : Ints w 0 B cb l.l) (hc : ckT f l = 0) :
    Calls Try.prog 14 #[.slice F f.length fc, .agg #[.slice A l.h.length ca, .slice B l.l.length cb]] w (OfTPost w (tableOf l f)) := by
  have hlim := ckT_lim hc
  have hcp := hf.cap
  have hle := hf.le
  have hlh : l.h.length ≤ l.n := by omega
  have hll : l.l.length ≤ l.n := by unfold La.n; omega
  have hcph := hh.cap
  have hleh := hh.le
  have hcpl := hl.cap
  have hlel := hl.le
  have HN := Lib.hid (show l.n = l.h.length + l.l.length from rfl)
  have HOK := Lib.hid (okLetters (ckT_F hc).2)
  have HCK := Lib.hid (ckF_ok (ckT_F hc).1)
  obtain ⟨i0, hi0, hz0, hz1, hz2⟩ := info_parts infoRow
  obtain ⟨i1, hi1, hy0, hy1, hy2⟩ := info_parts infoBool
  have HW := Lib.hid (oftW_is w A B ca cb l)
  go_enter Try.func14, Try.ntmps14
  go_wp2_with fail
  change Code.wp _ _ _ _ (oftW w A B ca cb l)
  have HF0 := Lib.hid (hf.below HW.out.below)
  have HH0 := Lib.hid (hh.below HW.out.below)
  have HL0 := Lib.hid (hl.below HW.out.below)
  generalize oftW w A B ca cb l = W0 at *
  have HI0 : Hid (OfTInv W0 (rowsOf l f 0) (.slice none 0 0) W0) := ⟨none, 0, [], rfl, ⟨World.ownsRow_nil _ _ _ _, rfl, fun k h => by simp [rowsOf] at h⟩, Below.refl _ _⟩
  clear hf hh hl hc
  obtain ⟨V, hV⟩ : ∃ V, V = w.heap.size := ⟨_, rfl⟩
  have HWV : Hid (Below V w W0 ∧ V < W0.heap.size ∧ W0.cell? ⟨V, 0, none⟩ = some (.slice A l.h.length ca) ∧ W0.cell? ⟨V, 1, none⟩ = some (.slice B l.l.length cb)) := by
    rw [hV]
    exact ⟨HW.out.below, HW.out.size, HW.out.l0, HW.out.l1⟩
  rw [← hV]
  have HV := Lib.hid hV
  clear hV
  go_loopw [5, 6] (fun v i wr => ∃ k : Nat, k ≤ f.length ∧ i = .int .i64 k ∧ OfTInv W0 (rowsOf l f k) v wr ∧ ckNds (f.drop k) k = 0) (fun _ i _ => f.length - (intOf i).toNat)
  case atStart => exact ⟨0, Nat.zero_le _, rfl, HI0.out, HCK.out.2.2.2⟩
  case round =>
    obtain ⟨k, hk, rfl, hinv, hck⟩ := hrel
    have HI := Lib.hid hinv
    have HK := Lib.hid hck
    clear hinv hck
    by_cases hlt : k < f.length
    · obtain ⟨T, tc, vs, rfl, d1, d2⟩ := HI.out
      have hrl : (rowsOf l f k).length = k := length_rowsOf l f k
      have HD1 := Lib.hid d1
      have HD2 := Lib.hid d2
      clear d1 d2
      obtain ⟨rw1, hrw1⟩ : ∃ r, r = rowsOf l f k := ⟨_, rfl⟩
      rw [← hrw1] at HI HD1 hrl ⊢
      have HRW := Lib.hid hrw1
      rw [hrl] at HD1 ⊢
      clear hrw1
      go_wp2
      obtain ⟨wo, rfl⟩ : ∃ wo : World, wo = wr := ⟨_, rfl⟩
      go_loopw [7, 8] (fun r at_ wr2 => ∃ p : Nat, p ≤ l.n ∧ at_ = .int .i64 p ∧ wr2.ownsRow wo.heap.size 4 1 r p (((rowOf l rw1 f[k]).take p).map Value.bool) ∧ Below wo.heap.size wo wr2) (fun _ at_ _ => l.n - (intOf at_).toNat)
      case atStart => exact ⟨0, Nat.zero_le _, rfl, by simpa using World.ownsRow_nil _ _ _ _, Below.refl _ _⟩
      case round =>
        obtain ⟨p, hp, rfl, hown, hb⟩ := hrel
        have HOWN := Lib.hid hown
        have HB := Lib.hid hb
        have hb2 := Below_on HD2.out hb HD2.out.size
        have HB2 := Lib.hid hb2
        have hVs := HWV.out.2.1
        have hV0 : V < wr.heap.size := by have := hb2.size; omega
        have c0 := (cell_on hb2 (b := V) (o := 0) hVs).trans HWV.out.2.2.1
        have c1 := (cell_on hb2 (b := V) (o := 1) hVs).trans HWV.out.2.2.2
        have m1 : p + 1 ≤ maxLen := by simp only [maxLen]; omega
        have m2 : (p + 1) * 1 ≤ 140737488355328 := by omega
        have hsum := HN.out
        clear hown hb hb2
        by_cases hlp : p < l.n
        · have HH := Lib.hid (HoldsAt_ F fc f A B ca cb l T tc rw1 k p wr (HF0.out.below HB2.out) (HH0.out.below HB2.out) (HL0.out.below HB2.out) ((show OwnT wr W0.heap.size (.slice T rw1.length tc) rw1 vs by rw [hrl]; exact HD1.out.below HB.out).rows (by omega) (fun r hr => by rw [HRW.out] at hr; rw [mem_rowsOf l f k r hr]; omega)) hlt hlp (fun r hr => by rw [HRW.out] at hr; exact mem_rowsOf l f k r hr) (by omega) (by omega) hrl (by
            have := HK.out
            rw [ckNds_step hlt] at this
            split at this
            · assumption
            · exact this) (by
            rw [← La.at_row hlp]
            have hx : p < (l.h ++ l.l).length := by rw [List.length_append]; omega
            rw [List.getD_eq_getElem?_getD, List.getElem?_eq_getElem hx]
            exact HOK.out.2.2.2 p hx))
          obtain ⟨nv, hnv⟩ : ∃ nv, nv = nodeVal l rw1 f[k] p := ⟨_, rfl⟩
          rw [← hnv] at HH
          have HNV := Lib.hid hnv
          obtain ⟨cells, hcells⟩ : ∃ c, c = ((rowOf l rw1 f[k]).take p).map Value.bool := ⟨_, rfl⟩
          rw [← hcells] at HOWN
          have HCELLS := Lib.hid hcells
          clear hnv hcells
          obtain ⟨R7, c7, hr7, _⟩ := own_form HOWN.out
          subst hr7
          rw [hrl] at HH
          have hlp1 : (p : Int) < (l.h.length : Int) + (l.l.length : Int) := by omega
          clear hsum
          go_wp2_with fail
          refine HH.out.mono ?_
          rintro e w4 ⟨rfl, hb4⟩
          have HB4 := Lib.hid hb4
          have c2 := (cell_on hb4 (o := 0) hV0).trans c0
          have c3 := (cell_on hb4 (o := 1) hV0).trans c1
          have HOWN4 : Hid ((w4.alloc (Obj.cells #[.bool nv] 4)).ownsRow wo.heap.size 4 1 (.slice R7 p c7) p cells) := own_below (own_below HOWN.out hb4) ((Below.refl _ _).alloc (Nat.le_refl _) _)
          have HRD4 : Hid (Rd (w4.alloc (Obj.cells #[.bool nv] 4)) 0 (some ⟨w4.heap.size, 0, none⟩) [.bool nv]) := by
            intro _
            refine ⟨_, 0, rfl, Nat.zero_le _, by simp, fun j u hu => ?_⟩
            match j, hu with
            | 0, hu => simp at hu; subst hu; go_simp
            | j + 1, hu => simp at hu
          have hbase4 : wo.heap.size ≤ (w4.alloc (Obj.cells #[.bool nv] 4)).heap.size := by
            have h1 := HB.out.size
            have h2 := hb4.size
            simp
            omega
          clear hb4
          go_wp2_with (at_builtin; refine wpList_app _ rfl (.tmp 26) (.tmp 33) _ rfl wo.heap.size 4 i1 _ 1 1 Try.underlying37 hi1 hy0 hy1 hy2 rfl (by decide) (.slice R7 p c7) p cells rfl HOWN4.out (some ⟨w4.heap.size, 0, none⟩) 1 1 [.bool nv] rfl rfl HRD4.out (by simp [Value.oneCell']) m1 m2 hbase4 ?_; intro v5 w5 hown5 hg5 hat5)
          have hb5 : Below wo.heap.size wo w5 := grownOwn_ ((Below_on HB.out HB4.out HB.out.size).alloc (by have h1 := HB.out.size; have h2 := HB4.out.size; omega) _) hg5 HOWN4.out (Nat.le_refl _) hbase4
          have HX := Lib.hid hown5
          have HY := Lib.hid hb5
          clear hown5 hg5 hat5 hb5
          go_roundw
          case rel => exact ⟨p + 1, by omega, by go_num, by rw [nodeRow_take hlp, List.map_append, ← HNV.out, ← HCELLS.out]; exact HX.out, HY.out⟩
          case measure => simp [intOf]; omega
        · have hlp2 : ¬ (l.n : Int) < (l.h.length : Int) + (l.l.length : Int) := by omega
          obtain rfl : p = l.n := by omega
          obtain ⟨R7, c7, hr7, _⟩ := own_form HOWN.out
          subst hr7
          obtain ⟨cs, hcs⟩ : ∃ c, c = Value.slice R7 l.n c7 := ⟨_, rfl⟩
          have HHS := Lib.hid hsum
          have HO5 : Hid ((wr.alloc (Obj.cells #[.slice R7 l.n c7] 37)).ownsRow W0.heap.size 37 1 (.slice T k tc) k vs) := by
            have := HD1.out.own
            rw [hrl] at this
            exact own_below (own_below this HB.out) ((Below.refl _ _).alloc (Nat.le_refl _) _)
          have HRD5 : Hid (Rd (wr.alloc (Obj.cells #[.slice R7 l.n c7] 37)) 0 (some ⟨wr.heap.size, 0, none⟩) [.slice R7 l.n c7]) := by
            intro _
            refine ⟨_, 0, rfl, Nat.zero_le _, by simp, fun j u hu => ?_⟩
            match j, hu with
            | 0, hu => simp at hu; subst hu; go_simp
            | j + 1, hu => simp at hu
          have hbase5 : W0.heap.size ≤ (wr.alloc (Obj.cells #[.slice R7 l.n c7] 37)).heap.size := by
            have h1 := HB2.out.size
            simp
            omega
          have m3 : k + 1 ≤ maxLen := by simp only [maxLen]; omega
          have m4 : (k + 1) * 24 ≤ 140737488355328 := by omega
          have hlnn : (l.h.length : Int) + (l.l.length : Int) = (l.n : Int) := by omega
          clear hsum m1 m2
          go_wp2_with (at_builtin; refine wpList_app _ rfl (.tmp 35) (.tmp 37) _ rfl W0.heap.size 37 i0 _ 1 24 Try.underlying27 hi0 hz0 hz1 hz2 rfl (by decide) (.slice T k tc) k vs rfl HO5.out (some ⟨wr.heap.size, 0, none⟩) 1 1 [.slice R7 l.n c7] rfl rfl HRD5.out (by simp [Value.oneCell']) m3 m4 hbase5 ?_; intro v5 w5 hown5 hg5 hat5)
          have hk1 : rowsOf l f (k + 1) = rw1 ++ [rowOf l rw1 f[k]] := by rw [rowsOf_succ l hlt, HRW.out]
          have hrl2 : (rowOf l rw1 f[k]).length = l.n := length_rowOf l rw1 f[k]
          have htk : (rowOf l rw1 f[k]).take l.n = rowOf l rw1 f[k] := List.take_of_length_le (by omega)
          have hu : (wr.alloc (Obj.cells #[.slice R7 l.n c7] 37)).ownsRow W0.heap.size 4 1 (.slice R7 l.n c7) (rowOf l rw1 f[k]).length ((rowOf l rw1 f[k]).map Value.bool) := by
            have := HOWN.out
            rw [htk] at this
            rw [hrl2]
            exact own_below (own_low this HD2.out.size) ((Below.refl _ _).alloc (Nat.le_refl _) _)
          have hO : OwnT (wr.alloc (Obj.cells #[.slice R7 l.n c7] 37)) W0.heap.size (.slice T k tc) rw1 vs := by
            have := HD1.out
            exact (this.below HB.out).below ((Below.refl _ _).alloc (Nat.le_refl _) _)
          have hfin := hO.push hu (by rw [hrl]; exact hown5) hg5
          obtain ⟨A5, c5, hv5, _⟩ := own_form hown5
          have hb5 : Below W0.heap.size W0 w5 := grownOwn_ (HB2.out.alloc HB2.out.size _) hg5 HO5.out (Nat.le_refl _) hbase5
          refine ⟨⟨k + 1, by omega, by go_num, ?_, ?_⟩, by simp [intOf]; omega⟩
          · rw [hk1]
            exact ⟨A5, c5, _, by rw [hv5, List.length_append, hrl]; rfl, hfin, hb5⟩
          · have := HK.out
            rw [ckNds_step hlt] at this
            split at this <;> simp_all
    · have hkf : k = f.length := by omega
      have HP : Hid (OfTPost w (tableOf l f) (.returned u5) wr) := by
        subst hkf
        obtain ⟨T, tc, vs, rfl, d1, d2⟩ := HI.out
        exact ⟨_, vs, rfl, d1.low (by rw [← HV.out]; exact Nat.le_of_lt HWV.out.2.1), HWV.out.1 |>.trans (d2.mono (Nat.le_of_lt HWV.out.2.1)) |> fun h => by rw [← HV.out]; exact h⟩
      clear hkf
      go_wp2_with fail
      go_ret
      exact HP.out
end Go.Proofs.Ytoglgeaiiipchaa
