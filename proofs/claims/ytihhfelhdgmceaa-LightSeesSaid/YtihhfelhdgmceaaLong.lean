/- Contract of long: no list of the table has more than 40 elements. -/
import Derived.Test.YtihhfelhdgmceaaVt
namespace Go.Proofs.Ytihhfelhdgmceaa
open Go.RowKit
def LongRes (t : Tb) (w : World) (x : Ending) (w' : World) : Prop :=
  ∃ b : Bool, x = .returned (.bool b) ∧ (b = false ↔ Small t) ∧ Below w.heap.size w w'
theorem llong (A0 A1 A2 : Option Addr) (c0 c1 c2 B : Nat) (t : Tb) (w : World) (h : Tab w B A0 A1 A2 t) (hB : B ≤ w.heap.size)
    (n0 : t.obs.length ≤ 9223372036854775807) (n1 : t.ent.length ≤ 9223372036854775807) (n2 : t.r.length ≤ 9223372036854775807) (n3 : ∀ j, j < t.r.length → (at1 t.r j).length ≤ 9223372036854775807) :
    Calls Try.prog 19 #[.agg #[.slice A0 t.obs.length c0, .slice A1 t.ent.length c1, .slice A2 t.r.length c2]] w (LongRes t w) := by
  have hT := h.box hB (.cells #[.slice A0 t.obs.length c0, .slice A1 t.ent.length c1, .slice A2 t.r.length c2] 25)
  have hal : Below w.heap.size w (w.alloc (.cells #[.slice A0 t.obs.length c0, .slice A1 t.ent.length c1, .slice A2 t.r.length c2] 25)) := (Below.refl _ _).alloc (Nat.le_refl _) _
  have N3 := Lib.hid n3
  clear h n3
  by_cases h0 : t.obs.length ≤ 40
  · by_cases h1 : t.ent.length ≤ 40
    · by_cases h2 : t.r.length ≤ 40
      · go_enter Try.func19, Try.ntmps19
        go_wp2
        go_loop [3] (fun i => ∃ k : Nat, k ≤ t.r.length ∧ i = .int .i64 k ∧ Hid (∀ j, j < k → (at1 t.r j).length ≤ 40)) (fun i => t.r.length - (intOf i).toNat)
        case atStart => exact ⟨0, Nat.zero_le _, rfl, hid_none⟩
        case round =>
          obtain ⟨k, hk, rfl, ha⟩ := hrel
          by_cases hlt : k < t.r.length
          · obtain ⟨b2, o2, rfl, hb2, hrows⟩ := hT.r.form (by omega)
            obtain ⟨Ak, Ck, hck, hik⟩ := hrows k hlt
            have hm := N3.out k hlt
            clear hrows
            by_cases hl : (at1 t.r k).length ≤ 40
            · go_wp2
              exact ⟨⟨k + 1, by omega, by go_num, hid_more ha hl⟩, by simp [intOf]; omega⟩
            · go_wp2
              go_ret
              exact ⟨true, rfl, by simp; exact fun hs => hl (hs.2.2.2 k hlt), hal⟩
          · go_wp2
            go_ret
            exact ⟨false, rfl, by simp; exact ⟨h0, h1, h2, fun j hj => ha.out j (by omega)⟩, hal⟩
      · go_enter Try.func19, Try.ntmps19
        go_wp2
        go_ret
        exact ⟨true, rfl, by simp; exact fun hs => h2 hs.2.2.1, hal⟩
    · go_enter Try.func19, Try.ntmps19
      go_wp2
      go_ret
      exact ⟨true, rfl, by simp; exact fun hs => h1 hs.2.1, hal⟩
  · go_enter Try.func19, Try.ntmps19
    go_wp2
    go_ret
    exact ⟨true, rfl, by simp; exact fun hs => h0 hs.1, hal⟩
end Go.Proofs.Ytihhfelhdgmceaa
