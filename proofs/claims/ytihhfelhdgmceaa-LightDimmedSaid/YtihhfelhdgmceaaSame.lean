/- SameTable of two equal tables. -/
import Derived.Test.YtihhfelhdgmceaaBet1
import Derived.Test.YtihhfelhdgmceaaBoxed
import Derived.Deep.DeepCutAuto
namespace Go.Proofs.Ytihhfelhdgmceaa
open Go.RowKit
theorem sameB_refl (xs : List Int) : sameB xs xs = true := by simp [sameB]
theorem Boxed.drew {W W' : World} {n B : Nat} {A0 A1 A2 : Option Addr} {c0 c1 c2 : Nat} {t : Tb} (h : Boxed W n B A0 A1 A2 c0 c1 c2 t) (hd : Drew W W') : Boxed W' n B A0 A1 A2 c0 c1 c2 t :=
  h.below (hd.below W.heap.size) h.sz
set_option maxRecDepth 100000 in
set_option maxHeartbeats 4000000 in
theorem rSameTable (A0 A1 A2 A0' A1' A2' : Option Addr) (c0 c1 c2 c0' c1' c2' B B' : Nat) (t : Tb) (w : World) (h : Tab w B A0 A1 A2 t) (h' : Tab w B' A0' A1' A2' t) (hB : B ≤ w.heap.size) (hB' : B' ≤ w.heap.size) (hn : Small t) :
    Calls Try.prog 40 #[.agg #[.slice A0 t.obs.length c0, .slice A1 t.ent.length c1, .slice A2 t.r.length c2], .agg #[.slice A0' t.obs.length c0', .slice A1' t.ent.length c1', .slice A2' t.r.length c2']] w fun e w' => e = .returned (.bool true) ∧ Below w.heap.size w w' := by
  obtain ⟨n1, n2, n3, n4⟩ := hn
  have hT := Boxed.new (c0 := c0) (c1 := c1) (c2 := c2) h hB
  have hal := boxed_world (w := w) (v := #[.slice A0 t.obs.length c0, .slice A1 t.ent.length c1, .slice A2 t.r.length c2])
  replace h' := h'.keep fun p hp => hal.cell (show p.block < w.heap.size by omega)
  generalize hW : w.alloc (.cells #[.slice A0 t.obs.length c0, .slice A1 t.ent.length c1, .slice A2 t.r.length c2] 25) = w0 at hT hal h'
  have hz : w0.heap.size = w.heap.size + 1 := by rw [← hW]; simp
  have HW := Lib.hid hW
  have hU := Boxed.new (c0 := c0') (c1 := c1') (c2 := c2') h' (by omega)
  have hb1 := boxed_world (w := w0) (v := #[.slice A0' t.obs.length c0', .slice A1' t.ent.length c1', .slice A2' t.r.length c2'])
  generalize hW1 : w0.alloc (.cells #[.slice A0' t.obs.length c0', .slice A1' t.ent.length c1', .slice A2' t.r.length c2'] 25) = w1 at hU hb1
  have HW1 := Lib.hid hW1
  replace hT := hT.below hb1 hT.sz
  replace hal := hal.trans (hb1.mono (by omega))
  rw [hz] at hU
  clear h h' hW hb1 hz hW1
  obtain ⟨q0, q1, q2⟩ := And.intro hT.q0 (And.intro hT.q1 hT.q2)
  obtain ⟨v0, v1, v2⟩ := And.intro hU.q0 (And.intro hU.q1 hU.q2)
  go_enter Try.func40, Try.ntmps40
  go_wp2_with fail
  rw [HW.out, HW1.out]
  refine (rSameInts _ _ _ _ _ _ _ _ _ hT.tab.o hU.tab.o (by omega) (by omega)).mono ?_
  rintro e w2 ⟨rfl, hd⟩
  rw [sameB_refl]
  replace hT := hT.drew hd
  replace hU := hU.drew hd
  replace hal := hal.trans (hd.below _)
  clear q0 q1 q2 v0 v1 v2 hd
  obtain ⟨q0, q1, q2⟩ := And.intro hT.q0 (And.intro hT.q1 hT.q2)
  obtain ⟨v0, v1, v2⟩ := And.intro hU.q0 (And.intro hU.q1 hU.q2)
  go_wp2_with fail
  refine (rSameInts _ _ _ _ _ _ _ _ _ hT.tab.e hU.tab.e (by omega) (by omega)).mono ?_
  rintro e w3 ⟨rfl, hd⟩
  rw [sameB_refl]
  replace hT := hT.drew hd
  replace hU := hU.drew hd
  replace hal := hal.trans (hd.below _)
  clear q0 q1 q2 v0 v1 v2 hd HW HW1
  obtain ⟨q0, q1, q2⟩ := And.intro hT.q0 (And.intro hT.q1 hT.q2)
  obtain ⟨v0, v1, v2⟩ := And.intro hU.q0 (And.intro hU.q1 hU.q2)
  go_upto_region 4 with fail
  go_loopw [5] (fun i wr => ∃ k : Nat, k ≤ t.r.length ∧ i = .int .i64 k ∧ Drew w3 wr) (fun i _ => t.r.length - (intOf i).toNat)
  case atStart => exact ⟨0, Nat.zero_le _, rfl, Drew.refl _⟩
  case round =>
    obtain ⟨k, hk, rfl, hd⟩ := hrel
    clear q0 q1 q2 v0 v1 v2
    have hT' := hT.drew hd
    have hU' := hU.drew hd
    obtain ⟨q0, q1, q2⟩ := And.intro hT'.q0 (And.intro hT'.q1 hT'.q2)
    obtain ⟨v0, v1, v2⟩ := And.intro hU'.q0 (And.intro hU'.q1 hU'.q2)
    by_cases hlt : k < t.r.length
    · obtain ⟨b, off, hA2, _, hcr⟩ := hT'.tab.r.form (by omega)
      obtain ⟨b', off', hA2', _, hcr'⟩ := hU'.tab.r.form (by omega)
      subst hA2 hA2'
      obtain ⟨Aj, Cj, hcj, hIj⟩ := hcr k hlt
      obtain ⟨Aj', Cj', hcj', hIj'⟩ := hcr' k hlt
      have hlen := n4 k hlt
      clear hcr hcr'
      have same := sameB_refl (at1 t.r k)
      go_wp2_with fail
      go_quiet ((go_at_call 35; exact quiet_drew (rSameInts _ _ _ _ _ _ _ _ _ (hIj.keep fun p _ => rfl) (hIj'.keep fun p _ => rfl) (by omega) (by omega))))
      go_wp2
      exact ⟨⟨k + 1, by omega, by go_num, hd.drewN nq⟩, by simp [intOf]; omega⟩
    · go_wp2
      go_ret
      exact ⟨rfl, hal.trans (hd.below _)⟩
end Go.Proofs.Ytihhfelhdgmceaa
