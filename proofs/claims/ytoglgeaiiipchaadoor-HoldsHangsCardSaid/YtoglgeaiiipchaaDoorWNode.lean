/- Walk: holds: node, whatever its kind, as the plain row says. -/
import Derived.Test.YtoglgeaiiipchaaDoorWN
namespace Go.Proofs.YtoglgeaiiipchaaDoor
open Go Go.RowKit Go.Shelf

theorem La.at_row {l : La} {p : Nat} (hp : p < l.n) : (l.h ++ l.l).getD p 0 = l.at p := by
  unfold La.at
  unfold La.n at hp
  rw [List.getD_eq_getElem?_getD]
  by_cases h : p < l.h.length
  · rw [if_pos h, List.getElem?_append_left h, List.getD_eq_getElem?_getD]
  · rw [if_neg h, List.getElem?_append_right (by omega), List.getD_eq_getElem?_getD, Nat.mod_eq_of_lt (by omega)]

theorem hnd_ok {x : Nd} {i : Int} (h : ndErr x i = 0) : btw x.k 1 8 = true ∧ (nmA x.k = true → 0 ≤ x.a ∧ x.a ≤ i - 1) ∧ (nmB x.k = true → 0 ≤ x.b ∧ x.b ≤ i - 1) ∧ (x.k = 2 → 0 ≤ x.n ∧ x.n ≤ 2) ∧ (x.k ≠ 2 → x.n = 0) := by
  unfold ndErr at h
  split at h
  · simp at h
  · rename_i h1
    split at h
    · simp at h
    · rename_i h2
      split at h
      · simp at h
      · rename_i h3
        split at h
        · simp at h
        · rename_i h4
          refine ⟨by simpa using h1, fun ha => ?_, fun hb => ?_, fun hk => ?_, fun hk => ?_⟩
          · have : btw x.a 0 (i - 1) = true := by cases e : btw x.a 0 (i - 1) <;> simp_all
            exact (btw_iff _ _ _).1 this
          · have : btw x.b 0 (i - 1) = true := by cases e : btw x.b 0 (i - 1) <;> simp_all
            exact (btw_iff _ _ _).1 this
          · have : btw x.n 0 2 = true := by cases e : btw x.n 0 2 <;> simp_all [nmN]
            exact (btw_iff _ _ _).1 this
          · cases e : (x.n != 0) <;> simp_all [nmN]

theorem NodePost.congr {w : World} {r r' : List Bool} (h : r = r') {e : Ending} {w' : World} (hp : NodePost w r e w') : NodePost w r' e w' := by rw [← h]; exact hp

set_option maxHeartbeats 1000000 in
theorem holdsNode_ (R : Nat) (A : Option Addr) (c : Nat) (l : La) (T : Option Addr) (tc : Nat) (rows : List (List Bool)) (x : Nd) (w : World)
    (hr : RdrAt w R A l.n c l.h.length) (hx : Ints w 0 A c (l.h ++ l.l)) (hxb : ∀ (i : Nat) (hi : i < (l.h ++ l.l).length), 0 ≤ (l.h ++ l.l)[i] ∧ (l.h ++ l.l)[i] ≤ 7)
    (hn0 : l.h.length < l.n) (hn : l.n ≤ 1000000) (ht : w.cell? ⟨R, 2, none⟩ = some (.slice T rows.length tc)) (hrows : RowsAt w T tc rows) (hlen : ∀ r ∈ rows, r.length = l.n) (hok : ndErr x rows.length = 0) :
    Calls Tryd.prog 35 #[.pointer (some ⟨R, 0, none⟩), .agg #[.int .i64 x.k, .int .i64 x.a, .int .i64 x.b, .int .i64 x.n]] w (NodePost w (rowOf l rows x)) := by
  obtain ⟨k1, ka, kb, kn, kz⟩ := hnd_ok hok
  rw [btw_iff] at k1
  obtain ⟨k, a, b, n⟩ := x
  simp only at k1 ka kb kn kz ⊢
  have hk : k = 1 ∨ k = 2 ∨ k = 3 ∨ k = 4 ∨ k = 5 ∨ k = 6 ∨ k = 7 ∨ k = 8 := by omega
  have hxl : (l.h ++ l.l).length = l.n := by simp [La.n]
  have AB : (k = 4 ∨ k = 5 ∨ k = 7 ∨ k = 8) → Calls Tryd.prog 35 #[.pointer (some ⟨R, 0, none⟩), .agg #[.int .i64 k, .int .i64 a, .int .i64 b, .int .i64 n]] w (NodePost w (rowOf l rows ⟨k, a, b, n⟩)) := by
    intro hk4
    have fa := ka (by rcases hk4 with rfl | rfl | rfl | rfl <;> rfl)
    have fb := kb (by rcases hk4 with rfl | rfl | rfl | rfl <;> rfl)
    obtain ⟨a, rfl⟩ := Int.eq_ofNat_of_zero_le fa.1
    obtain ⟨b, rfl⟩ := Int.eq_ofNat_of_zero_le fb.1
    refine (nodeAB_ R A c l.n l.h.length T tc rows k hk4 a b n w hr hn0 hn ht hrows hlen (by omega) (by omega)).mono fun e w' hp => NodePost.congr ?_ hp
    unfold rowOf
    apply List.map_congr_left
    intro p _
    rcases hk4 with rfl | rfl | rfl | rfl <;> simp [nodeVal]
  have AA : (k = 3 ∨ k = 6) → Calls Tryd.prog 35 #[.pointer (some ⟨R, 0, none⟩), .agg #[.int .i64 k, .int .i64 a, .int .i64 b, .int .i64 n]] w (NodePost w (rowOf l rows ⟨k, a, b, n⟩)) := by
    intro hk4
    have fa := ka (by rcases hk4 with rfl | rfl <;> rfl)
    obtain ⟨a, rfl⟩ := Int.eq_ofNat_of_zero_le fa.1
    refine (nodeA_ R A c l.n l.h.length T tc rows k hk4 a b n w hr hn0 hn ht hrows hlen (by omega)).mono fun e w' hp => NodePost.congr ?_ hp
    unfold rowOf
    apply List.map_congr_left
    intro p _
    rcases hk4 with rfl | rfl <;> simp [nodeVal]
  have NN : (k = 1 ∨ k = 2) → Calls Tryd.prog 35 #[.pointer (some ⟨R, 0, none⟩), .agg #[.int .i64 k, .int .i64 a, .int .i64 b, .int .i64 n]] w (NodePost w (rowOf l rows ⟨k, a, b, n⟩)) := by
    intro hk4
    have fn : 0 ≤ n ∧ n ≤ 2 := by
      by_cases h2 : k = 2
      · exact kn h2
      · rw [kz h2]; omega
    obtain ⟨n, rfl⟩ := Int.eq_ofNat_of_zero_le fn.1
    refine (nodeN_ R A c l.n l.h.length (l.h ++ l.l) k hk4 a b n (by omega) w (by rw [hxl]; exact hr) hxl hx hxb hn0 hn).mono fun e w' hp => NodePost.congr ?_ hp
    unfold rowOf
    apply List.map_congr_left
    intro p hp
    have hp' : p < l.n := by simpa using hp
    rw [La.at_row hp']
    rcases hk4 with rfl | rfl <;> simp [nodeVal]
  rcases hk with h | h | h | h | h | h | h | h
  · exact NN (.inl h)
  · exact NN (.inr h)
  · exact AA (.inl h)
  · exact AB (.inl h)
  · exact AB (.inr (.inl h))
  · exact AA (.inr h)
  · exact AB (.inr (.inr (.inl h)))
  · exact AB (.inr (.inr (.inr h)))
end Go.Proofs.YtoglgeaiiipchaaDoor
