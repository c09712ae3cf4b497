/- Walks: the reference's HoldsAt whatever the kind; TableOf. -/
import Derived.Test.YtoglgeaiiipchaaWRH
import Derived.Test.YtoglgeaiiipchaaWT
namespace Go.Proofs.Ytoglgeaiiipchaa
open Go Go.RowKit Go.Shelf

set_option maxHeartbeats 1000000 in
theorem HoldsAt_ (F : Option Addr) (fc : Nat) (f : List Nd) (A B : Option Addr) (ca cb : Nat) (l : La) (T : Option Addr) (tc : Nat) (rows : List (List Bool)) (i p : Nat) (w : World)
    (hf : Nds w 0 F fc f) (hh : Ints w 0 A ca l.h) (hl : Ints w 0 B cb l.l) (ht : RowsAt w T tc rows) (hi : i < f.length) (hp : p < l.n) (hlen : ∀ r ∈ rows, r.length = l.n)
    (hlt : l.h.length < l.n) (hn : l.n ≤ 8000) (hrl : rows.length = i) (hok : ndErr f[i] i = 0) (hxb : 0 ≤ l.at p ∧ l.at p ≤ 7) :
    Calls Try.prog 40 #[.slice F f.length fc, .agg #[.slice A l.h.length ca, .slice B l.l.length cb], .slice T rows.length tc, .int .i64 i, .int .i64 p] w (HaPost w (nodeVal l rows f[i] p)) := by
  obtain ⟨k1, ka, kb, kn, kz⟩ := nd_ok hok
  rw [btw_iff] at k1
  have hk : f[i].k = 1 ∨ f[i].k = 2 ∨ f[i].k = 3 ∨ f[i].k = 4 ∨ f[i].k = 5 ∨ f[i].k = 6 ∨ f[i].k = 7 ∨ f[i].k = 8 := by omega
  have AA : nmA f[i].k = true → ∃ a : Nat, f[i].a = a ∧ a < rows.length := fun h => by
    obtain ⟨h1, h2⟩ := ka h
    obtain ⟨a, ha⟩ := Int.eq_ofNat_of_zero_le h1
    exact ⟨a, ha, by omega⟩
  have BB : nmB f[i].k = true → ∃ a : Nat, f[i].b = a ∧ a < rows.length := fun h => by
    obtain ⟨h1, h2⟩ := kb h
    obtain ⟨a, ha⟩ := Int.eq_ofNat_of_zero_le h1
    exact ⟨a, ha, by omega⟩
  rcases hk with h | h | h | h | h | h | h | h
  · have := HoldsAt1_ F fc f A B ca cb l T tc rows i p w hf hh hl ht hi hp hlen hlt hn h
    simpa [nodeVal, h] using this
  · obtain ⟨h1, h2⟩ := kn h
    obtain ⟨N, hN⟩ := Int.eq_ofNat_of_zero_le h1
    have := HoldsAt2_ F fc f A B ca cb l T tc rows i p w hf hh hl ht hi hp hlen hlt hn h N hN (by omega) hxb
    simpa [nodeVal, h, hN] using this
  · obtain ⟨a, ha, hal⟩ := AA (by rw [h]; rfl)
    have := HoldsAt3_ F fc f A B ca cb l T tc rows i p w hf hh hl ht hi hp hlen hlt hn h a ha hal
    simpa [nodeVal, h, ha] using this
  · obtain ⟨a, ha, hal⟩ := AA (by rw [h]; rfl)
    obtain ⟨b, hb, hbl⟩ := BB (by rw [h]; rfl)
    have := HoldsAt4_ F fc f A B ca cb l T tc rows i p w hf hh hl ht hi hp hlen hlt hn h a b ha hal hb hbl
    simpa [nodeVal, h, ha, hb] using this
  · obtain ⟨a, ha, hal⟩ := AA (by rw [h]; rfl)
    obtain ⟨b, hb, hbl⟩ := BB (by rw [h]; rfl)
    have := HoldsAt5_ F fc f A B ca cb l T tc rows i p w hf hh hl ht hi hp hlen hlt hn h a b ha hal hb hbl
    simpa [nodeVal, h, ha, hb] using this
  · obtain ⟨a, ha, hal⟩ := AA (by rw [h]; rfl)
    have := HoldsAt6_ F fc f A B ca cb l T tc rows i p w hf hh hl ht hi hp hlen hlt hn h a ha hal
    simpa [nodeVal, h, ha] using this
  · obtain ⟨a, ha, hal⟩ := AA (by rw [h]; rfl)
    obtain ⟨b, hb, hbl⟩ := BB (by rw [h]; rfl)
    have := HoldsAt7_ F fc f A B ca cb l T tc rows i p w hf hh hl ht hi hp hlen hlt hn h a b ha hal hb hbl
    simpa [nodeVal, h, ha, hb] using this
  · obtain ⟨a, ha, hal⟩ := AA (by rw [h]; rfl)
    obtain ⟨b, hb, hbl⟩ := BB (by rw [h]; rfl)
    have := HoldsAt8_ F fc f A B ca cb l T tc rows i p w hf hh hl ht hi hp hlen hlt hn h a b ha hal hb hbl
    simpa [nodeVal, h, ha, hb] using this
end Go.Proofs.Ytoglgeaiiipchaa
