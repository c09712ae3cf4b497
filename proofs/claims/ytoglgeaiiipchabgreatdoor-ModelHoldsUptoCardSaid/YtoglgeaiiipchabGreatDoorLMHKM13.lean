import Derived.Test.YtoglgeaiiipchabGreatDoorLMHKM11
import Derived.Test.YtoglgeaiiipchabGreatDoorLMHKM12
import Derived.Sort.LoopGhostIn
import Derived.Sort.CutIn
set_option linter.unusedSimpArgs false
set_option linter.unusedVariables false
namespace Go.Proofs.YtoglgeaiiipchabGreatDoor
open Go Go.RowKit Go.Maps Go.Shelf Go.Sort
attribute [local go_sem] Oper.semAt_some
def edW (f : List Nd) (c nx p : Nat) (k : Nat) : List Stp := (List.range k).map fun v : Nat => ⟨tnum f p v, (c : Int), tnum f nx (onW f (truths f c nx) v)⟩
theorem edW_succ (f : List Nd) (c nx p k : Nat) : edW f c nx p (k + 1) = edW f c nx p k ++ [⟨tnum f p k, (c : Int), tnum f nx (onW f (truths f c nx) k)⟩] := by unfold edW; rw [List.range_succ, List.map_append]; rfl
theorem edW_len (f : List Nd) (c nx p k : Nat) : (edW f c nx p k).length = k := by simp [edW]
def ed0 (f : List Nd) (c nx : Nat) : List Stp := if (truths f c nx).getD (f.length - 1) false = true then [⟨0, (c : Int), tnum f nx (onW f (truths f c nx) 0)⟩] else []
def edAll (f : List Nd) (c nx p : Nat) : List Stp := edW f c nx p ((fair f).length + 1) ++ ed0 f c nx
set_option maxRecDepth 100000 in
set_option maxHeartbeats 8000000 in
theorem edge_ (f : List Nd) (hf : FmOK f) (c nx : Nat) (hc : c < 8) (hnx : nx < 2 ^ tn f) (w0 : World) (Bk M : Nat) (FA : Option Addr) (fc : Nat) (gv sv : Value) (es : List Stp) (hes : es.length ≤ 1000000) (w : World) (hT : TbW w0 Bk M f FA fc gv sv es w) :
    Calls Tryz.prog 121 #[.pointer (some ⟨Bk, 0, none⟩), .int .i64 (c : Int), .int .i64 (nx : Int)] w fun e w' => e = .returned (.tuple #[]) ∧ ∃ sv' p, KeptIs f (truths f c nx) p ∧ TbW w0 Bk M f FA fc gv sv' (es ++ edAll f c nx p) w' ∧ KeepS Bk w w' := by
  have HF := Lib.hid hf
  have HNX := Lib.hid hnx
  have hn4 := (tn_le hf).1
  have hfn := (tn_le hf).2
  have h16 : 2 ^ tn f ≤ 16 := Nat.pow_le_pow_right (n := 2) (by decide) hn4
  have HN16 : Hid (nx ≤ 16 ∧ 2 ^ tn f ≤ 16 ∧ (fair f).length ≤ 4 ∧ c < 8) := ⟨by omega, h16, by omega, hc⟩
  have HTW := Lib.hid hT
  obtain ⟨GA, gc, rfl, hTA⟩ := hT.rd hf
  have HTR := Lib.hid (truths_ f hf c nx hc hnx Bk M FA GA fc gc w hTA)
  clear hT hf hc hnx hn4 hfn h16 hTA
  refine (callsIn_wide (n := 9)).1 ?_
  refine callsIn_of_wp Tryz.func121 rfl trivial ?_
  simp only [Tryz.ntmps121, List.size_toArray, List.length_cons, List.length_nil, Nat.reduceAdd, Nat.reduceSub, Array.replicate_succ, Array.replicate_zero, List.push_toArray, List.append_toArray, List.nil_append, List.cons_append]
  gi_wp2
  refine ⟨trivial, ?_⟩
  refine (callsIn_wide.2 HTR.out).mono ?_
  rintro e w1 ⟨G, rfl, hG, hrow, hb1⟩
  have HL : Hid ((truths f c nx).length = f.length) := trs_len f c nx f.length
  have HT1 := Lib.hid (HTW.out.on hb1)
  have HR1 := Lib.hid hrow
  obtain ⟨GA1, gc1, he1, hTA1⟩ := HT1.out.rd HF.out
  obtain ⟨rfl, rfl⟩ : GA = GA1 ∧ gc = gc1 := by simpa using he1
  have HKP := Lib.hid (kept_ f HF.out (truths f c nx) HL.out G Bk M FA GA fc gc w1 hTA1 hrow)
  have HK1 : Hid (KeepS Bk w w1) := KeepS.of_below hb1
  clear HTR hrow hb1 hG he1 hTA1 HTW
  have HE0 : Hid (ed0 f c nx = if (truths f c nx).getD (f.length - 1) false = true then [⟨0, (c : Int), tnum f nx (onW f (truths f c nx) 0)⟩] else []) := rfl
  have HEW := Lib.hid (edW_succ f c nx)
  generalize htt : truths f c nx = t at *
  have HTT := Lib.hid htt
  clear htt
  gi_wp2
  refine ⟨trivial, ?_⟩
  refine (callsIn_wide.2 HKP.out).mono ?_
  rintro e w2 ⟨p, rfl, hkp, hb2⟩
  have HT2 := Lib.hid (HT1.out.on hb2)
  have HR2 := Lib.hid (HR1.out.below hb2 HR1.out.lt)
  have HKI := Lib.hid hkp
  have hp16 : p ≤ 16 := by have := hkp.lt; have := HN16.out; omega
  have HK2 : Hid (KeepS Bk w w2) := HK1.out.trans (KeepS.of_below hb2)
  clear HKP hkp hb2 HT1 HR1 HK1
  have c2 := (cells4 HT2.out.obj).2.2.1
  rw [fairI_len] at c2
  obtain ⟨n, hn⟩ : ∃ n, n = (fair f).length := ⟨_, rfl⟩
  have HNN := Lib.hid hn
  rw [← hn] at c2
  have hn4 : n ≤ 4 := by rw [hn]; exact HN16.out.2.2.1
  clear hn
  gi_wp2
  gi_loopw [8, 22] (fun _ v22 wr => ∃ (k : Nat) (s : Value), k ≤ n + 1 ∧ v22 = .int .i64 (k : Int) ∧ Hid (TbW w0 Bk M f FA fc (.slice GA (fairI f).length gc) s (es ++ edW f c nx p k) wr) ∧ Hid (BRow wr G t) ∧ Hid (KeepS Bk w wr)) (fun _ v22 _ => n + 1 - (intOf v22).toNat)
  case atStart => exact ⟨0, sv, Nat.zero_le _, rfl, by show TbW _ _ _ _ _ _ _ _ _ _; simpa [edW] using HT2.out, HR2.out, HK2.out⟩
  case round =>
    obtain ⟨k, s, hk, rfl, HT, HR, HKS⟩ := hrel
    by_cases hkn : k < n + 1
    · have q1 : (k : Int) < (n : Int) + 1 := by omega
      clear c2
      gi_wp2
      have hdw : Below wr.heap.size wr wr.drew := (Below.refl _ _).drew
      have HTD := Lib.hid (HT.out.on hdw)
      have HRD := Lib.hid (HR.out.below hdw HR.out.lt)
      obtain ⟨sA, sc, rfl, hsl, hsc, -⟩ := own_form HT.out.s
      have HKN := Lib.hid hkn
      obtain ⟨GA2, gc2, he2, hA6⟩ := HTD.out.rd HF.out
      obtain ⟨rfl, rfl⟩ : GA = GA2 ∧ gc = gc2 := by simpa using he2
      have s6 := (cells4 HTD.out.obj).2.2.2.1
      have r6 : BRow wr.drew G t := HRD.out
      have hkf : k ≤ (fair f).length := by have := HNN.out; omega
      have HON := Lib.hid (fun W (h1 : TbAt W Bk M f FA fc GA gc) (h2 : BRow W G t) => on_ f HF.out k hkf t HL.out G Bk M FA GA fc gc W h1 h2)
      have hle := onW_le (t := t) hkf
      have hn5 : onW f t k ≤ 5 := by have := HN16.out.2.2.1; omega
      have hk5 : k ≤ 5 := by omega
      have hnx16 := HN16.out.1
      generalize hLS : es ++ edW f c nx p k = ls at *
      have HLS : Hid (es ++ edW f c nx p (k + 1) = ls ++ [⟨tnum f p k, (c : Int), tnum f nx (onW f t k)⟩]) := by show _ = _; rw [HEW.out, ← List.append_assoc, hLS]
      generalize onW f t k = ov at *
      have hll : ls.length ≤ 1000000000 := by rw [← hLS, List.length_append, edW_len]; omega
      clear hLS hle hkf he2 HT HR
      refine wpIn_region_Z (fun w' => TbAt w' Bk M f FA fc GA gc ∧ BRow w' G t ∧ w'.cell? ⟨Bk, 3, none⟩ = some (.slice sA ls.length sc)) 22 (by kernel_rfl) ?_
      generalize wr.drew = W6 at *
      refine wpAnyZIn_take (i := 0) (v := ?v0e) rfl (by kernel_rfl) (by kernel_rfl) (by kernel_rfl) (by kernel_rfl) (by kernel_rfl) (by kernel_rfl) (fun _ _ _ h => h) (yieldsZ_of (fun _ h => (by cases h)) (by rfl) ?hy0e) ⟨hA6, r6, s6⟩ ?rest0e
      case hy0e => (intro w' hw'; obtain ⟨h0, h1, h2⟩ := hw'; go_simp; (try with_reducible rfl))
      (try simp only [Act.put, List.setIfInBounds_toArray, List.set_cons_zero, List.set_cons_succ])
      refine wpAnyZIn_take (i := 1) (v := ?v1e) rfl (by kernel_rfl) (by kernel_rfl) (by kernel_rfl) (by kernel_rfl) (by kernel_rfl) (by kernel_rfl) (fun _ _ _ h => h) (yieldsZ_of (fun _ h => (by cases h)) (by rfl) ?hy1e) ⟨hA6, r6, s6⟩ ?rest1e
      case hy1e => (intro w' hw'; obtain ⟨h0, h1, h2⟩ := hw'; go_simp; (try with_reducible rfl))
      (try simp only [Act.put, List.setIfInBounds_toArray, List.set_cons_zero, List.set_cons_succ])
      refine wpAnyZIn_take (i := 2) (v := ?v2e) rfl (by kernel_rfl) (by kernel_rfl) (by kernel_rfl) (by kernel_rfl) (by kernel_rfl) (by kernel_rfl) (fun _ _ _ h => h) (yieldsZ_of (fun _ h => (by cases h)) (by rfl) ?hy2e) ⟨hA6, r6, s6⟩ ?rest2e
      case hy2e => (intro w' hw'; obtain ⟨h0, h1, h2⟩ := hw'; go_simp; (try with_reducible rfl))
      (try simp only [Act.put, List.setIfInBounds_toArray, List.set_cons_zero, List.set_cons_succ])
      refine wpAnyZIn_take (i := 3) (v := ?v3e) rfl (by kernel_rfl) (by kernel_rfl) (by kernel_rfl) (by kernel_rfl) (by kernel_rfl) (by kernel_rfl) (fun _ _ _ h => h) (yieldsZ_of (fun _ h => (by cases h)) (by rfl) ?hy3e) ⟨hA6, r6, s6⟩ ?rest3e
      case hy3e => (intro w' hw'; obtain ⟨h0, h1, h2⟩ := hw'; go_simp; (try with_reducible rfl))
      (try simp only [Act.put, List.setIfInBounds_toArray, List.set_cons_zero, List.set_cons_succ])
      refine wpAnyZIn_take (i := 4) (v := ?v4e) rfl (by kernel_rfl) (by kernel_rfl) (by kernel_rfl) (by kernel_rfl) (by kernel_rfl) (by kernel_rfl) (fun _ _ _ h => h) (yieldsZ_of (fun _ h => (by cases h)) (by rfl) ?hy4e) ⟨hA6, r6, s6⟩ ?rest4e
      case hy4e => (intro w' hw'; obtain ⟨h0, h1, h2⟩ := hw'; go_simp; (try with_reducible rfl))
      (try simp only [Act.put, List.setIfInBounds_toArray, List.set_cons_zero, List.set_cons_succ])
      refine wpAnyZIn_take (i := 5) (v := ?v5e) rfl (by kernel_rfl) (by kernel_rfl) (by kernel_rfl) (by kernel_rfl) (by kernel_rfl) (by kernel_rfl) (fun _ _ _ h => h) (yieldsZ_of (fun _ h => (by cases h)) (by rfl) ?hy5e) ⟨hA6, r6, s6⟩ ?rest5e
      case hy5e => (intro w' hw'; obtain ⟨h0, h1, h2⟩ := hw'; go_simp; (try with_reducible rfl))
      (try simp only [Act.put, List.setIfInBounds_toArray, List.set_cons_zero, List.set_cons_succ])
      refine wpAnyZIn_take (i := 6) (v := ?v6e) rfl (by kernel_rfl) (by kernel_rfl) (by kernel_rfl) (by kernel_rfl) (by kernel_rfl) (by kernel_rfl) (fun _ _ _ h => h) (yieldsZ_of (fun _ h => (by cases h)) (by rfl) ?hy6e) ⟨hA6, r6, s6⟩ ?rest6e
      case hy6e => (intro w' hw'; obtain ⟨h0, h1, h2⟩ := hw'; go_simp; (try with_reducible rfl))
      (try simp only [Act.put, List.setIfInBounds_toArray, List.set_cons_zero, List.set_cons_succ])
      refine wpAnyZIn_take (i := 7) (v := ?v7e) rfl (by kernel_rfl) (by kernel_rfl) (by kernel_rfl) (by kernel_rfl) (by kernel_rfl) (by kernel_rfl) (fun _ _ _ h => h) (yieldsZ_of (fun _ h => (by cases h)) (by rfl) ?hy7e) ⟨hA6, r6, s6⟩ ?rest7e
      case hy7e => (intro w' hw'; obtain ⟨h0, h1, h2⟩ := hw'; go_simp; (try with_reducible rfl))
      (try simp only [Act.put, List.setIfInBounds_toArray, List.set_cons_zero, List.set_cons_succ])
      refine wpAnyZIn_take (i := 8) (v := .int .i64 (tnum f p k)) rfl (by kernel_rfl) (by kernel_rfl) (by kernel_rfl) (by kernel_rfl) (by kernel_rfl) (by kernel_rfl) (fun _ _ _ h => h) (yieldsZ_call (f := 120) (args := #[.pointer (some ⟨Bk, 0, none⟩), .int .i64 (p : Int), .int .i64 (k : Int)]) (fun _ _ _ _ => trivial) (by rfl) ?hx8e (fun h => (by cases h)) ?hc8e) ⟨hA6, r6, s6⟩ ?rest8e
      case hx8e => (intro w'; go_simp; (try with_reducible rfl))
      case hc8e => (intro w' hw'; exact (callsIn_wide.2 (tnumber_ f HF.out p k hp16 hk5 Bk M FA GA fc gc w' hw'.1)).mono (fun e w'' h => ⟨h.1, h.2⟩))
      (try simp only [Act.put, List.setIfInBounds_toArray, List.set_cons_zero, List.set_cons_succ])
      refine wpAnyZIn_take (i := 9) (v := ?v9e) rfl (by kernel_rfl) (by kernel_rfl) (by kernel_rfl) (by kernel_rfl) (by kernel_rfl) (by kernel_rfl) (fun _ _ _ h => h) (yieldsZ_of (fun _ h => (by cases h)) (by rfl) ?hy9e) ⟨hA6, r6, s6⟩ ?rest9e
      case hy9e => (intro w' hw'; obtain ⟨h0, h1, h2⟩ := hw'; go_simp; (try with_reducible rfl))
      (try simp only [Act.put, List.setIfInBounds_toArray, List.set_cons_zero, List.set_cons_succ])
      refine wpAnyZIn_take (i := 10) (v := ?v10e) rfl (by kernel_rfl) (by kernel_rfl) (by kernel_rfl) (by kernel_rfl) (by kernel_rfl) (by kernel_rfl) (fun _ _ _ h => h) (yieldsZ_of (fun _ h => (by cases h)) (by rfl) ?hy10e) ⟨hA6, r6, s6⟩ ?rest10e
      case hy10e => (intro w' hw'; obtain ⟨h0, h1, h2⟩ := hw'; go_simp; (try with_reducible rfl))
      (try simp only [Act.put, List.setIfInBounds_toArray, List.set_cons_zero, List.set_cons_succ])
      refine wpAnyZIn_take (i := 11) (v := ?v11e) rfl (by kernel_rfl) (by kernel_rfl) (by kernel_rfl) (by kernel_rfl) (by kernel_rfl) (by kernel_rfl) (fun _ _ _ h => h) (yieldsZ_of (fun _ h => (by cases h)) (by rfl) ?hy11e) ⟨hA6, r6, s6⟩ ?rest11e
      case hy11e => (intro w' hw'; obtain ⟨h0, h1, h2⟩ := hw'; go_simp; (try with_reducible rfl))
      (try simp only [Act.put, List.setIfInBounds_toArray, List.set_cons_zero, List.set_cons_succ])
      refine wpAnyZIn_take (i := 12) (v := ?v12e) rfl (by kernel_rfl) (by kernel_rfl) (by kernel_rfl) (by kernel_rfl) (by kernel_rfl) (by kernel_rfl) (fun _ _ _ h => h) (yieldsZ_of (fun _ h => (by cases h)) (by rfl) ?hy12e) ⟨hA6, r6, s6⟩ ?rest12e
      case hy12e => (intro w' hw'; obtain ⟨h0, h1, h2⟩ := hw'; go_simp; (try with_reducible rfl))
      (try simp only [Act.put, List.setIfInBounds_toArray, List.set_cons_zero, List.set_cons_succ])
      refine wpAnyZIn_take (i := 13) (v := ?v13e) rfl (by kernel_rfl) (by kernel_rfl) (by kernel_rfl) (by kernel_rfl) (by kernel_rfl) (by kernel_rfl) (fun _ _ _ h => h) (yieldsZ_of (fun _ h => (by cases h)) (by rfl) ?hy13e) ⟨hA6, r6, s6⟩ ?rest13e
      case hy13e => (intro w' hw'; obtain ⟨h0, h1, h2⟩ := hw'; go_simp; (try with_reducible rfl))
      (try simp only [Act.put, List.setIfInBounds_toArray, List.set_cons_zero, List.set_cons_succ])
      refine wpAnyZIn_take (i := 14) (v := ?v14e) rfl (by kernel_rfl) (by kernel_rfl) (by kernel_rfl) (by kernel_rfl) (by kernel_rfl) (by kernel_rfl) (fun _ _ _ h => h) (yieldsZ_of (fun _ h => (by cases h)) (by rfl) ?hy14e) ⟨hA6, r6, s6⟩ ?rest14e
      case hy14e => (intro w' hw'; obtain ⟨h0, h1, h2⟩ := hw'; go_simp; (try with_reducible rfl))
      (try simp only [Act.put, List.setIfInBounds_toArray, List.set_cons_zero, List.set_cons_succ])
      refine wpAnyZIn_one (i := 15) rfl (by kernel_rfl) rfl (fun K hK => ?_)
      refine step_callIn (f := 162) (args := #[.pointer (some ⟨Bk, 0, none⟩), .int .i64 (k : Int), .slice (some ⟨G, 0, none⟩) t.length t.length]) (by go_simp; (try with_reducible rfl)) (fun _ h => (by cases h)) (fun _ => trivial) (fun h => (by cases h)) ?_
      refine (callsIn_wide.2 (HON.out W6 hA6 r6)).mono ?_
      rintro e w7 ⟨rfl, hb7⟩
      refine ⟨_, rfl, ?_⟩
      have HT7 := Lib.hid (HTD.out.on hb7)
      have HR7 := Lib.hid (HRD.out.below hb7 HRD.out.lt)
      obtain ⟨GA7, gc7, he7, hA7⟩ := HT7.out.rd HF.out
      obtain ⟨rfl, rfl⟩ : GA = GA7 ∧ gc = gc7 := by simpa using he7
      have s7 := (cells4 HT7.out.obj).2.2.2.1
      have r7 : BRow w7 G t := HR7.out
      refine hK.out _ _ (.inr ⟨hA7, r7, s7⟩) ?_
      clear hK K he7
      (try simp only [Act.put, List.setIfInBounds_toArray, List.set_cons_zero, List.set_cons_succ])
      refine wpAnyZIn_take (i := 16) (v := .int .i64 (tnum f nx ov)) rfl (by kernel_rfl) (by kernel_rfl) (by kernel_rfl) (by kernel_rfl) (by kernel_rfl) (by kernel_rfl) (fun _ _ _ h => h) (yieldsZ_call (f := 120) (args := #[.pointer (some ⟨Bk, 0, none⟩), .int .i64 (nx : Int), .int .i64 (ov : Int)]) (fun _ _ _ _ => trivial) (by rfl) ?hx16e (fun h => (by cases h)) ?hc16e) ⟨hA7, r7, s7⟩ ?rest16e
      case hx16e => (intro w'; go_simp; (try with_reducible rfl))
      case hc16e => (intro w' hw'; exact (callsIn_wide.2 (tnumber_ f HF.out nx ov hnx16 hn5 Bk M FA GA fc gc w' hw'.1)).mono (fun e w'' h => ⟨h.1, h.2⟩))
      (try simp only [Act.put, List.setIfInBounds_toArray, List.set_cons_zero, List.set_cons_succ])
      refine wpAnyZIn_take (i := 17) (v := ?v17e) rfl (by kernel_rfl) (by kernel_rfl) (by kernel_rfl) (by kernel_rfl) (by kernel_rfl) (by kernel_rfl) (fun _ _ _ h => h) (yieldsZ_of (fun _ h => (by cases h)) (by rfl) ?hy17e) ⟨hA7, r7, s7⟩ ?rest17e
      case hy17e => (intro w' hw'; obtain ⟨h0, h1, h2⟩ := hw'; go_simp; (try with_reducible rfl))
      (try simp only [Act.put, List.setIfInBounds_toArray, List.set_cons_zero, List.set_cons_succ])
      obtain ⟨T8, cc8, he8, hlc8, hcm8, T3, c3, w8, hrun, q8, f8, hgr, hT8, hR8⟩ := HT7.out.app ⟨tnum f p k, (c : Int), tnum f nx ov⟩ hll
      obtain ⟨rfl, rfl⟩ : sA = T8 ∧ sc = cc8 := by simpa using he8
      have hal : Below w7.heap.size w7 (w7.alloc (Obj.cells #[.int .i64 (tnum f p k), .int .i64 (c : Int), .int .i64 (tnum f nx ov)] 108)) := (Below.refl _ _).alloc (Nat.le_refl _) _
      have HTA := Lib.hid (HT7.out.on hal)
      obtain ⟨GA9, gc9, he9, hA9⟩ := HTA.out.rd HF.out
      obtain ⟨rfl, rfl⟩ : GA = GA9 ∧ gc = gc9 := by simpa using he9
      have s9 := (cells4 HTA.out.obj).2.2.2.1
      have r9 := HR7.out.below hal HR7.out.lt
      obtain ⟨hA8, hRR⟩ := HT7.out.mid HF.out hal hgr
      have r8 := hRR G t HR7.out
      have HRUN := Lib.hid hrun
      have HT8 := Lib.hid hT8
      have HR8 := Lib.hid (hR8.brow (HT7.out.brow_ne HR7.out) HR7.out)
      have HK8 := Lib.hid (HKS.out.trans ((KeepS.of_below hdw).trans ((KeepS.of_below hb7).trans hR8)))
      clear he8 he9 hrun hgr hT8 hR8 hRR hal
      refine wpAnyZIn_one (i := 18) rfl (by kernel_rfl) rfl (fun K hK => ?_)
      go_simp
      refine hK.out _ _ (.inr ⟨hA9, r9, s9⟩) ?_
      clear hK K
      (try simp only [Act.put, List.setIfInBounds_toArray, List.set_cons_zero, List.set_cons_succ])
      refine wpAnyZIn_one (i := 19) rfl (by kernel_rfl) rfl (fun K hK => ?_)
      refine step_appIn (.tmp 29) (.tmp 43) _ _ rfl (.slice sA ls.length sc) (.slice (some ⟨w7.heap.size, 0, none⟩) 1 1) (.slice T3 (ls.length + 1) c3) (by go_simp) (by go_simp) HRUN.out ?_
      refine hK.out _ _ (.inr ⟨hA8, r8, q8⟩) ?_
      clear hK K
      (try simp only [Act.put, List.setIfInBounds_toArray, List.set_cons_zero, List.set_cons_succ])
      refine wpAnyZIn_take (i := 20) (v := ?v20e) rfl (by kernel_rfl) (by kernel_rfl) (by kernel_rfl) (by kernel_rfl) (by kernel_rfl) (by kernel_rfl) (fun _ _ _ h => h) (yieldsZ_of (fun _ h => (by cases h)) (by rfl) ?hy20e) ⟨hA8, r8, q8⟩ ?rest20e
      case hy20e => (intro w' hw'; obtain ⟨h0, h1, h2⟩ := hw'; go_simp; (try with_reducible rfl))
      (try simp only [Act.put, List.setIfInBounds_toArray, List.set_cons_zero, List.set_cons_succ])
      refine wpAnyZIn_take (i := 21) (v := ?v21e) rfl (by kernel_rfl) (by kernel_rfl) (by kernel_rfl) (by kernel_rfl) (by kernel_rfl) (by kernel_rfl) (fun _ _ _ h => h) (yieldsZ_of (fun _ h => (by cases h)) (by rfl) ?hy21e) ⟨hA8, r8, q8⟩ ?rest21e
      case hy21e => (intro w' hw'; obtain ⟨h0, h1, h2⟩ := hw'; go_simp; (try with_reducible rfl))
      (try simp only [Act.put, List.setIfInBounds_toArray, List.set_cons_zero, List.set_cons_succ])
      refine wpAnyZIn_one (i := 22) rfl (by kernel_rfl) rfl (fun K hK => ?_)
      go_simp
      refine hK.out _ _ (.inl rfl) ?_
      clear hK K
      refine wpAnyZIn_done (by kernel_rfl) (noPanic_normal ?_) _
      gi_wp2
      go_roundw
      case rel => exact ⟨k + 1, _, HKN.out, by go_num, by show TbW _ _ _ _ _ _ _ _ _ _; rw [HLS.out]; exact HT8.out, HR8.out, HK8.out⟩
      case measure => simp [intOf]; have := HKN.out; omega
    · have q1 : ¬ (k : Int) < (n : Int) + 1 := by omega
      obtain rfl : k = n + 1 := by omega
      clear c2
      have hpos : 0 < f.length := HF.out.pos
      have hfl := fm_len HF.out
      have q2 : IntKind.i64.wrap ((t.length : Int) - 1) = ((t.length - 1 : Nat) : Int) := by
        have := HL.out
        rw [IntWalk.i64_in _ (by omega)]
        omega
      have q3 : ((t.length - 1 : Nat) : Int) < (t.length : Int) := by have := HL.out; omega
      have q4 : (1 : Int) ≤ (t.length : Int) := by have := HL.out; omega
      obtain ⟨y0, _⟩ := HR.out.getD_ (i := t.length - 1) (by have := HL.out; omega) false
      rw [← HL.out] at HE0
      have HEA : Hid (edAll f c nx p = edW f c nx p (n + 1) ++ ed0 f c nx) := by show _ = _; unfold edAll; rw [HNN.out]
      generalize t.getD (t.length - 1) false = tv at *
      cases tv with
      | false =>
        have HP : Hid (∃ sv' p', KeptIs f (truths f c nx) p' ∧ TbW w0 Bk M f FA fc (.slice GA (fairI f).length gc) sv' (es ++ edAll f c nx p') wr ∧ KeepS Bk w wr) := ⟨s, p, by rw [HTT.out]; exact HKI.out, by rw [HEA.out, HE0.out, if_neg (by simp), List.append_nil]; exact HT.out, HKS.out⟩
        clear hpos hfl
        gi_wp2
        go_end0
        exact ⟨rfl, HP.out⟩
      | true =>
      clear hpos hfl
      gi_wp2
      have hdw : Below wr.heap.size wr wr.drew := (Below.refl _ _).drew
      have HTD := Lib.hid (HT.out.on hdw)
      have HRD := Lib.hid (HR.out.below hdw HR.out.lt)
      obtain ⟨sA, sc, rfl, hsl, hsc, -⟩ := own_form HT.out.s
      obtain ⟨GA2, gc2, he2, hA6⟩ := HTD.out.rd HF.out
      obtain ⟨rfl, rfl⟩ : GA = GA2 ∧ gc = gc2 := by simpa using he2
      have s6 := (cells4 HTD.out.obj).2.2.2.1
      have r6 : BRow wr.drew G t := HRD.out
      have HON := Lib.hid (fun W (h1 : TbAt W Bk M f FA fc GA gc) (h2 : BRow W G t) => on_ f HF.out 0 (Nat.zero_le _) t HL.out G Bk M FA GA fc gc W h1 h2)
      have hle := onW_le (f := f) (t := t) (w := 0) (Nat.zero_le _)
      have hn5 : onW f t 0 ≤ 5 := by have := HN16.out.2.2.1; omega
      have hnx16 := HN16.out.1
      generalize hLS : es ++ edW f c nx p (n + 1) = ls at *
      have HLS : Hid (es ++ edAll f c nx p = ls ++ [⟨0, (c : Int), tnum f nx (onW f t 0)⟩]) := by show _ = _; rw [HEA.out, HE0.out, if_pos (by simp), ← List.append_assoc, hLS]
      have hll : ls.length ≤ 1000000000 := by rw [← hLS, List.length_append, edW_len]; omega
      generalize onW f t 0 = ov at *
      clear hLS hle he2 HT HR y0 q2 q3 q4
      refine wpIn_region_Z (fun w' => TbAt w' Bk M f FA fc GA gc ∧ BRow w' G t ∧ w'.cell? ⟨Bk, 3, none⟩ = some (.slice sA ls.length sc)) 17 (by kernel_rfl) ?_
      generalize wr.drew = W6 at *
      refine wpAnyZIn_take (i := 0) (v := ?v0g) rfl (by kernel_rfl) (by kernel_rfl) (by kernel_rfl) (by kernel_rfl) (by kernel_rfl) (by kernel_rfl) (fun _ _ _ h => h) (yieldsZ_of (fun _ h => (by cases h)) (by rfl) ?hy0g) ⟨hA6, r6, s6⟩ ?rest0g
      case hy0g => (intro w' hw'; obtain ⟨h0, h1, h2⟩ := hw'; go_simp; (try with_reducible rfl))
      (try simp only [Act.put, List.setIfInBounds_toArray, List.set_cons_zero, List.set_cons_succ])
      refine wpAnyZIn_take (i := 1) (v := ?v1g) rfl (by kernel_rfl) (by kernel_rfl) (by kernel_rfl) (by kernel_rfl) (by kernel_rfl) (by kernel_rfl) (fun _ _ _ h => h) (yieldsZ_of (fun _ h => (by cases h)) (by rfl) ?hy1g) ⟨hA6, r6, s6⟩ ?rest1g
      case hy1g => (intro w' hw'; obtain ⟨h0, h1, h2⟩ := hw'; go_simp; (try with_reducible rfl))
      (try simp only [Act.put, List.setIfInBounds_toArray, List.set_cons_zero, List.set_cons_succ])
      refine wpAnyZIn_take (i := 2) (v := ?v2g) rfl (by kernel_rfl) (by kernel_rfl) (by kernel_rfl) (by kernel_rfl) (by kernel_rfl) (by kernel_rfl) (fun _ _ _ h => h) (yieldsZ_of (fun _ h => (by cases h)) (by rfl) ?hy2g) ⟨hA6, r6, s6⟩ ?rest2g
      case hy2g => (intro w' hw'; obtain ⟨h0, h1, h2⟩ := hw'; go_simp; (try with_reducible rfl))
      (try simp only [Act.put, List.setIfInBounds_toArray, List.set_cons_zero, List.set_cons_succ])
      refine wpAnyZIn_take (i := 3) (v := ?v3g) rfl (by kernel_rfl) (by kernel_rfl) (by kernel_rfl) (by kernel_rfl) (by kernel_rfl) (by kernel_rfl) (fun _ _ _ h => h) (yieldsZ_of (fun _ h => (by cases h)) (by rfl) ?hy3g) ⟨hA6, r6, s6⟩ ?rest3g
      case hy3g => (intro w' hw'; obtain ⟨h0, h1, h2⟩ := hw'; go_simp; (try with_reducible rfl))
      (try simp only [Act.put, List.setIfInBounds_toArray, List.set_cons_zero, List.set_cons_succ])
      refine wpAnyZIn_take (i := 4) (v := ?v4g) rfl (by kernel_rfl) (by kernel_rfl) (by kernel_rfl) (by kernel_rfl) (by kernel_rfl) (by kernel_rfl) (fun _ _ _ h => h) (yieldsZ_of (fun _ h => (by cases h)) (by rfl) ?hy4g) ⟨hA6, r6, s6⟩ ?rest4g
      case hy4g => (intro w' hw'; obtain ⟨h0, h1, h2⟩ := hw'; go_simp; (try with_reducible rfl))
      (try simp only [Act.put, List.setIfInBounds_toArray, List.set_cons_zero, List.set_cons_succ])
      refine wpAnyZIn_take (i := 5) (v := ?v5g) rfl (by kernel_rfl) (by kernel_rfl) (by kernel_rfl) (by kernel_rfl) (by kernel_rfl) (by kernel_rfl) (fun _ _ _ h => h) (yieldsZ_of (fun _ h => (by cases h)) (by rfl) ?hy5g) ⟨hA6, r6, s6⟩ ?rest5g
      case hy5g => (intro w' hw'; obtain ⟨h0, h1, h2⟩ := hw'; go_simp; (try with_reducible rfl))
      (try simp only [Act.put, List.setIfInBounds_toArray, List.set_cons_zero, List.set_cons_succ])
      refine wpAnyZIn_take (i := 6) (v := ?v6g) rfl (by kernel_rfl) (by kernel_rfl) (by kernel_rfl) (by kernel_rfl) (by kernel_rfl) (by kernel_rfl) (fun _ _ _ h => h) (yieldsZ_of (fun _ h => (by cases h)) (by rfl) ?hy6g) ⟨hA6, r6, s6⟩ ?rest6g
      case hy6g => (intro w' hw'; obtain ⟨h0, h1, h2⟩ := hw'; go_simp; (try with_reducible rfl))
      (try simp only [Act.put, List.setIfInBounds_toArray, List.set_cons_zero, List.set_cons_succ])
      refine wpAnyZIn_take (i := 7) (v := ?v7g) rfl (by kernel_rfl) (by kernel_rfl) (by kernel_rfl) (by kernel_rfl) (by kernel_rfl) (by kernel_rfl) (fun _ _ _ h => h) (yieldsZ_of (fun _ h => (by cases h)) (by rfl) ?hy7g) ⟨hA6, r6, s6⟩ ?rest7g
      case hy7g => (intro w' hw'; obtain ⟨h0, h1, h2⟩ := hw'; go_simp; (try with_reducible rfl))
      (try simp only [Act.put, List.setIfInBounds_toArray, List.set_cons_zero, List.set_cons_succ])
      refine wpAnyZIn_take (i := 8) (v := ?v8g) rfl (by kernel_rfl) (by kernel_rfl) (by kernel_rfl) (by kernel_rfl) (by kernel_rfl) (by kernel_rfl) (fun _ _ _ h => h) (yieldsZ_of (fun _ h => (by cases h)) (by rfl) ?hy8g) ⟨hA6, r6, s6⟩ ?rest8g
      case hy8g => (intro w' hw'; obtain ⟨h0, h1, h2⟩ := hw'; go_simp; (try with_reducible rfl))
      (try simp only [Act.put, List.setIfInBounds_toArray, List.set_cons_zero, List.set_cons_succ])
      refine wpAnyZIn_take (i := 9) (v := ?v9g) rfl (by kernel_rfl) (by kernel_rfl) (by kernel_rfl) (by kernel_rfl) (by kernel_rfl) (by kernel_rfl) (fun _ _ _ h => h) (yieldsZ_of (fun _ h => (by cases h)) (by rfl) ?hy9g) ⟨hA6, r6, s6⟩ ?rest9g
      case hy9g => (intro w' hw'; obtain ⟨h0, h1, h2⟩ := hw'; go_simp; (try with_reducible rfl))
      (try simp only [Act.put, List.setIfInBounds_toArray, List.set_cons_zero, List.set_cons_succ])
      refine wpAnyZIn_one (i := 10) rfl (by kernel_rfl) rfl (fun K hK => ?_)
      refine step_callIn (f := 162) (args := #[.pointer (some ⟨Bk, 0, none⟩), .int .i64 0, .slice (some ⟨G, 0, none⟩) t.length t.length]) (by go_simp; (try with_reducible rfl)) (fun _ h => (by cases h)) (fun _ => trivial) (fun h => (by cases h)) ?_
      refine (callsIn_wide.2 (HON.out W6 hA6 r6)).mono ?_
      rintro e w7 ⟨rfl, hb7⟩
      refine ⟨_, rfl, ?_⟩
      have HT7 := Lib.hid (HTD.out.on hb7)
      have HR7 := Lib.hid (HRD.out.below hb7 HRD.out.lt)
      obtain ⟨GA7, gc7, he7, hA7⟩ := HT7.out.rd HF.out
      obtain ⟨rfl, rfl⟩ : GA = GA7 ∧ gc = gc7 := by simpa using he7
      have s7 := (cells4 HT7.out.obj).2.2.2.1
      have r7 : BRow w7 G t := HR7.out
      refine hK.out _ _ (.inr ⟨hA7, r7, s7⟩) ?_
      clear hK K he7
      (try simp only [Act.put, List.setIfInBounds_toArray, List.set_cons_zero, List.set_cons_succ])
      refine wpAnyZIn_take (i := 11) (v := .int .i64 (tnum f nx ov)) rfl (by kernel_rfl) (by kernel_rfl) (by kernel_rfl) (by kernel_rfl) (by kernel_rfl) (by kernel_rfl) (fun _ _ _ h => h) (yieldsZ_call (f := 120) (args := #[.pointer (some ⟨Bk, 0, none⟩), .int .i64 (nx : Int), .int .i64 (ov : Int)]) (fun _ _ _ _ => trivial) (by rfl) ?hx11g (fun h => (by cases h)) ?hc11g) ⟨hA7, r7, s7⟩ ?rest11g
      case hx11g => (intro w'; go_simp; (try with_reducible rfl))
      case hc11g => (intro w' hw'; exact (callsIn_wide.2 (tnumber_ f HF.out nx ov hnx16 hn5 Bk M FA GA fc gc w' hw'.1)).mono (fun e w'' h => ⟨h.1, h.2⟩))
      (try simp only [Act.put, List.setIfInBounds_toArray, List.set_cons_zero, List.set_cons_succ])
      refine wpAnyZIn_take (i := 12) (v := ?v12g) rfl (by kernel_rfl) (by kernel_rfl) (by kernel_rfl) (by kernel_rfl) (by kernel_rfl) (by kernel_rfl) (fun _ _ _ h => h) (yieldsZ_of (fun _ h => (by cases h)) (by rfl) ?hy12g) ⟨hA7, r7, s7⟩ ?rest12g
      case hy12g => (intro w' hw'; obtain ⟨h0, h1, h2⟩ := hw'; go_simp; (try with_reducible rfl))
      (try simp only [Act.put, List.setIfInBounds_toArray, List.set_cons_zero, List.set_cons_succ])
      obtain ⟨T8, cc8, he8, hlc8, hcm8, T3, c3, w8, hrun, q8, f8, hgr, hT8, hR8⟩ := HT7.out.app ⟨0, (c : Int), tnum f nx ov⟩ hll
      obtain ⟨rfl, rfl⟩ : sA = T8 ∧ sc = cc8 := by simpa using he8
      have hal : Below w7.heap.size w7 (w7.alloc (Obj.cells #[.int .i64 0, .int .i64 (c : Int), .int .i64 (tnum f nx ov)] 108)) := (Below.refl _ _).alloc (Nat.le_refl _) _
      have HTA := Lib.hid (HT7.out.on hal)
      obtain ⟨GA9, gc9, he9, hA9⟩ := HTA.out.rd HF.out
      obtain ⟨rfl, rfl⟩ : GA = GA9 ∧ gc = gc9 := by simpa using he9
      have s9 := (cells4 HTA.out.obj).2.2.2.1
      have r9 := HR7.out.below hal HR7.out.lt
      obtain ⟨hA8, hRR⟩ := HT7.out.mid HF.out hal hgr
      have r8 := hRR G t HR7.out
      have HRUN := Lib.hid hrun
      have HT8 := Lib.hid hT8
      have HR8 := Lib.hid (hR8.brow (HT7.out.brow_ne HR7.out) HR7.out)
      have HK8 := Lib.hid (HKS.out.trans ((KeepS.of_below hdw).trans ((KeepS.of_below hb7).trans hR8)))
      clear he8 he9 hrun hgr hT8 hR8 hRR hal
      refine wpAnyZIn_one (i := 13) rfl (by kernel_rfl) rfl (fun K hK => ?_)
      go_simp
      refine hK.out _ _ (.inr ⟨hA9, r9, s9⟩) ?_
      clear hK K
      (try simp only [Act.put, List.setIfInBounds_toArray, List.set_cons_zero, List.set_cons_succ])
      refine wpAnyZIn_one (i := 14) rfl (by kernel_rfl) rfl (fun K hK => ?_)
      refine step_appIn (.tmp 58) (.tmp 67) _ _ rfl (.slice sA ls.length sc) (.slice (some ⟨w7.heap.size, 0, none⟩) 1 1) (.slice T3 (ls.length + 1) c3) (by go_simp) (by go_simp) HRUN.out ?_
      refine hK.out _ _ (.inr ⟨hA8, r8, q8⟩) ?_
      clear hK K
      (try simp only [Act.put, List.setIfInBounds_toArray, List.set_cons_zero, List.set_cons_succ])
      refine wpAnyZIn_take (i := 15) (v := ?v15g) rfl (by kernel_rfl) (by kernel_rfl) (by kernel_rfl) (by kernel_rfl) (by kernel_rfl) (by kernel_rfl) (fun _ _ _ h => h) (yieldsZ_of (fun _ h => (by cases h)) (by rfl) ?hy15g) ⟨hA8, r8, q8⟩ ?rest15g
      case hy15g => (intro w' hw'; obtain ⟨h0, h1, h2⟩ := hw'; go_simp; (try with_reducible rfl))
      (try simp only [Act.put, List.setIfInBounds_toArray, List.set_cons_zero, List.set_cons_succ])
      refine wpAnyZIn_take (i := 16) (v := ?v16g) rfl (by kernel_rfl) (by kernel_rfl) (by kernel_rfl) (by kernel_rfl) (by kernel_rfl) (by kernel_rfl) (fun _ _ _ h => h) (yieldsZ_of (fun _ h => (by cases h)) (by rfl) ?hy16g) ⟨hA8, r8, q8⟩ ?rest16g
      case hy16g => (intro w' hw'; obtain ⟨h0, h1, h2⟩ := hw'; go_simp; (try with_reducible rfl))
      (try simp only [Act.put, List.setIfInBounds_toArray, List.set_cons_zero, List.set_cons_succ])
      refine wpAnyZIn_one (i := 17) rfl (by kernel_rfl) rfl (fun K hK => ?_)
      go_simp
      refine hK.out _ _ (.inl rfl) ?_
      clear hK K
      refine wpAnyZIn_done (by kernel_rfl) (noPanic_normal ?_) _
      have HP : Hid (∃ sv' p', KeptIs f (truths f c nx) p' ∧ TbW w0 Bk M f FA fc (.slice GA (fairI f).length gc) sv' (es ++ edAll f c nx p') (w8.setCell ⟨Bk, 3, none⟩ (.slice T3 (ls.length + 1) c3)) ∧ KeepS Bk w (w8.setCell ⟨Bk, 3, none⟩ (.slice T3 (ls.length + 1) c3))) := ⟨_, p, by rw [HTT.out]; exact HKI.out, by rw [HLS.out]; exact HT8.out, HK8.out⟩
      clear hA8 r8 q8 f8 hA9 r9 s9 hA7 r7 s7 hA6 r6 s6
      gi_wp2
      go_end0
      exact ⟨rfl, HP.out⟩
end Go.Proofs.YtoglgeaiiipchabGreatDoor

namespace Go.Proofs.YtoglgeaiiipchabGreatDoor
open Go Go.RowKit Go.Maps
theorem itD_size_fold : ∀ (D : List (Int × Int)) (m : DataW Unit), Tidy m → (D.map Prod.fst).Nodup → (∀ p ∈ D, has m (.int .i64 p.1) = false) → Maps.size (D.foldl (fun m p => m.put (.int .i64 p.1) (itL p.2)) m) = Maps.size m + D.length
  | [], _, _, _, _ => rfl
  | p :: D, m, hm, hn, hh => by
    rw [List.map_cons, List.nodup_cons] at hn
    rw [List.foldl_cons, itD_size_fold D _ (hm.put (show WideAt.IsKeyLit (.int .i64 p.1) from trivial) _) hn.2 (fun q hq => by
      rw [has_put_other (fun e => hn.1 (by
        have e2 : q.1 = p.1 := by simpa using e
        rw [← e2]
        exact List.mem_map_of_mem hq))]
      exact hh q (List.mem_cons_of_mem _ hq)), size_put hm, hh p (List.mem_cons_self ..)]
    simp
    omega
theorem at_size {f : List Nd} : Maps.size (itD (atD f f.length)) = tn f := by
  have h := itD_size_fold (atD f f.length) (.map []) tidy_empty (atD_nodup _ _) (fun p _ => rfl)
  rw [show Maps.size (.map [] : DataW Unit) = 0 from rfl, Nat.zero_add, atD_len f f.length (Nat.le_refl _)] at h
  exact h
def gsTo (f : List Nd) (k : Nat) : List Bool := (List.range (2 ^ tn f * ((fair f).length + 1) + 1)).map fun i => decide (i ≠ 0 ∧ (i - 1) % ((fair f).length + 1) = (fair f).length ∧ (i - 1) / ((fair f).length + 1) < k)
theorem gsTo_len (f : List Nd) (k : Nat) : (gsTo f k).length = 2 ^ tn f * ((fair f).length + 1) + 1 := by simp [gsTo]
theorem gsTo_zero (f : List Nd) : gsTo f 0 = List.replicate (2 ^ tn f * ((fair f).length + 1) + 1) false := by
  unfold gsTo
  apply List.ext_getElem
  · simp
  · intro i h1 h2
    simp
theorem gsTo_end (f : List Nd) : gsTo f (2 ^ tn f) = tabGs f := by
  unfold gsTo tabGs
  apply List.map_congr_left
  intro i hi
  have hi := List.mem_range.1 hi
  have : i ≠ 0 → (i - 1) / ((fair f).length + 1) < 2 ^ tn f := fun h0 => by
    rw [Nat.div_lt_iff_lt_mul (by omega)]
    omega
  by_cases h0 : i = 0 <;> simp [h0]
  intro _
  exact this h0
theorem gsTo_succ (f : List Nd) {k : Nat} (hk : k < 2 ^ tn f) : (gsTo f k).set (1 + k * ((fair f).length + 1) + (fair f).length) true = gsTo f (k + 1) := by
  unfold gsTo
  generalize (fair f).length = n
  apply List.ext_getElem
  · simp
  · intro i h1 h2
    rw [List.getElem_set]
    simp only [List.length_map, List.length_range] at h2
    simp only [List.getElem_map, List.getElem_range]
    split
    · rename_i he
      have hi : i - 1 = k * (n + 1) + n := by omega
      have hm : (k * (n + 1) + n) % (n + 1) = n := by rw [Nat.add_comm, Nat.add_mul_mod_self_right, Nat.mod_eq_of_lt (by omega)]
      have hd : (k * (n + 1) + n) / (n + 1) = k := by rw [Nat.add_comm, Nat.add_mul_div_right _ _ (by omega), Nat.div_eq_of_lt (by omega)]; omega
      rw [hi, hm, hd]
      simp
      omega
    · rename_i he
      by_cases h0 : i = 0
      · simp [h0]
      by_cases hm : (i - 1) % (n + 1) = n
      · have hdm := Nat.div_add_mod (i - 1) (n + 1)
        have : (i - 1) / (n + 1) ≠ k := fun hd => by
          rw [hd, hm, Nat.mul_comm] at hdm
          omega
        simp [h0, hm]
        omega
      · simp [h0, hm]
structure EdM (f : List Nd) (c j : Nat) (es : List Stp) : Prop where
  mem : ∀ s, s ∈ es ↔ ∃ c' nx p, (c' < c ∨ c' = c ∧ nx < j) ∧ nx < 2 ^ tn f ∧ KeptIs f (truths f c' nx) p ∧ s ∈ edAll f c' nx p
  len : es.length ≤ (c * 16 + j) * 6
theorem EdM.start (f : List Nd) : EdM f 0 0 [] := ⟨fun s => ⟨fun h => (by cases h), fun ⟨c', nx, p, h, _⟩ => (by omega)⟩, by simp⟩
theorem edAll_len {f : List Nd} (hf : FmOK f) (c nx p : Nat) : (edAll f c nx p).length ≤ 6 := by
  unfold edAll ed0
  rw [List.length_append, edW_len]
  have := tn_le hf
  split
  · simp; omega
  · simp; omega
theorem EdM.add {f : List Nd} (hf : FmOK f) {c j p : Nat} {es : List Stp} (h : EdM f c j es) (hj : j < 2 ^ tn f) (hp : KeptIs f (truths f c j) p) : EdM f c (j + 1) (es ++ edAll f c j p) := by
  refine ⟨fun s => ?_, ?_⟩
  · rw [List.mem_append, h.mem]
    constructor
    · rintro (⟨c', nx, p', h1, h2⟩ | h1)
      · exact ⟨c', nx, p', by omega, h2⟩
      · exact ⟨c, j, p, by omega, hj, hp, h1⟩
    · rintro ⟨c', nx, p', h1, h2, h3, h4⟩
      by_cases he : c' = c ∧ nx = j
      · obtain ⟨rfl, rfl⟩ := he
        rw [kept_unique h3 hp] at h4
        exact .inr h4
      · exact .inl ⟨c', nx, p', by omega, h2, h3, h4⟩
  · rw [List.length_append]
    have := edAll_len hf c j p
    have := h.len
    omega
theorem EdM.next {f : List Nd} (hf : FmOK f) {c : Nat} {es : List Stp} (h : EdM f c (2 ^ tn f) es) : EdM f (c + 1) 0 es := by
  refine ⟨fun s => ?_, ?_⟩
  · rw [h.mem]
    constructor
    · rintro ⟨c', nx, p', h1, h2⟩
      exact ⟨c', nx, p', by omega, h2⟩
    · rintro ⟨c', nx, p', h1, h2, h3⟩
      exact ⟨c', nx, p', by omega, h2, h3⟩
  · have := h.len
    have : 2 ^ tn f ≤ 16 := Nat.pow_le_pow_right (n := 2) (by decide) (tn_le hf).1
    omega
theorem EdM.raw {f : List Nd} {es : List Stp} (h : EdM f 8 0 es) : TabRaw f es := fun s => by
  rw [h.mem]
  constructor
  · rintro ⟨c, nx, p, h1, h2, h3, h4⟩
    refine ⟨c, nx, p, by omega, h2, h3, ?_⟩
    unfold edAll at h4
    rcases List.mem_append.1 h4 with h5 | h5
    · unfold edW at h5
      obtain ⟨v, hv, rfl⟩ := List.mem_map.1 h5
      exact .inl ⟨v, by have := List.mem_range.1 hv; omega, rfl⟩
    · unfold ed0 at h5
      split at h5
      · exact .inr ⟨by assumption, List.mem_singleton.1 h5⟩
      · cases h5
  · rintro ⟨c, nx, p, h1, h2, h3, h4⟩
    refine ⟨c, nx, p, by omega, h2, h3, ?_⟩
    unfold edAll
    rcases h4 with ⟨v, hv, rfl⟩ | ⟨ht, rfl⟩
    · exact List.mem_append_left _ (List.mem_map.2 ⟨v, List.mem_range.2 (by omega), rfl⟩)
    · refine List.mem_append_right _ ?_
      unfold ed0
      rw [if_pos ht]
      exact List.mem_singleton.2 rfl
end Go.Proofs.YtoglgeaiiipchabGreatDoor
