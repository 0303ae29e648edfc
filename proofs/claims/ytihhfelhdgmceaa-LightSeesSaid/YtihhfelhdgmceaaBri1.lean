/- Contracts of up, bright, seen and Bright (both texts). -/
import Derived.Test.YtihhfelhdgmceaaCo2
import Derived.Test.YtihhfelhdgmceaaScene
import Derived.Test.YtihhfelhdgmceaaBoxed
import Derived.Test.YtihhfelhdgmceaaExt
import Derived.Test.YtihhfelhdgmceaaCo3
namespace Go.Proofs.Ytihhfelhdgmceaa
open Go.RowKit
def upF (a b : Int) : Int := (a + b - 1) / b
noncomputable def brightF (t : Tb) (s : Sc) (d : Int) : Int := s.power * coefF t (upF (s.rise * 1000) d) (upF (s.side * 1000) d + s.turn) / (d * d)
theorem mix_range {r00 r01 r10 r11 a b c d : Int} (h00 : 0 ≤ r00 ∧ r00 ≤ 100000) (h01 : 0 ≤ r01 ∧ r01 ≤ 100000) (h10 : 0 ≤ r10 ∧ r10 ≤ 100000) (h11 : 0 ≤ r11 ∧ r11 ≤ 100000)
    (ha : 0 ≤ a) (hb : 0 ≤ b) (hc : 0 ≤ c) (hd : 0 ≤ d) (hab : 0 < a + b) (hcd : 0 < c + d) : 0 ≤ mix r00 r01 r10 r11 a b c d ∧ mix r00 r01 r10 r11 a b c d ≤ 100000 := by
  have hden : 0 < (a + b) * (c + d) := Int.mul_pos hab hcd
  have n1 : 0 ≤ b * d := Int.mul_nonneg hb hd
  have n2 : 0 ≤ b * c := Int.mul_nonneg hb hc
  have n3 : 0 ≤ a * d := Int.mul_nonneg ha hd
  have n4 : 0 ≤ a * c := Int.mul_nonneg ha hc
  have e : (a + b) * (c + d) = a * c + a * d + (b * c + b * d) := by rw [Int.add_mul, Int.mul_add, Int.mul_add]
  have p1 := Int.mul_nonneg h00.1 n1
  have p2 := Int.mul_nonneg h01.1 n2
  have p3 := Int.mul_nonneg h10.1 n3
  have p4 := Int.mul_nonneg h11.1 n4
  have q1 := Int.mul_le_mul_of_nonneg_right h00.2 n1
  have q2 := Int.mul_le_mul_of_nonneg_right h01.2 n2
  have q3 := Int.mul_le_mul_of_nonneg_right h10.2 n3
  have q4 := Int.mul_le_mul_of_nonneg_right h11.2 n4
  unfold mix
  rw [Int.mul_assoc, Int.mul_assoc, Int.mul_assoc, Int.mul_assoc]
  constructor
  · exact Int.ediv_nonneg (by omega) (by omega)
  · apply Int.ediv_le_of_le_mul hden
    omega
theorem coefF_bd {t : Tb} (ht : TabOk t) (o e : Int) : 0 ≤ coefF t o e ∧ coefF t o e ≤ 100000 := by
  unfold coefF
  by_cases h : ∃ v, CoefIs t o e v
  · rw [dif_pos h]
    rcases Classical.choose_spec h with ⟨_, h0⟩ | ⟨_, i, k, ⟨i1, i2, i3⟩, ⟨k1, k2, k3⟩, hv⟩
    · rw [h0]; omega
    · rw [hv]
      have r1 := ht.2.2.2 i (by have := ht.2.2.1; omega)
      have r2 := ht.2.2.2 (i + 1) (by have := ht.2.2.1; omega)
      have a1 := r1.2 k (by omega)
      have a2 := r1.2 (k + 1) k1
      have a3 := r2.2 k (by omega)
      have a4 := r2.2 (k + 1) k1
      have s1 := slopes_lt ht.1 (i + 1) i (by omega) i1
      have s2 := slopes_lt ht.2.1 (k + 1) k (by omega) k1
      unfold interp
      exact mix_range ⟨a1.1, a1.2.1⟩ ⟨a2.1, a2.2.1⟩ ⟨a3.1, a3.2.1⟩ ⟨a4.1, a4.2.1⟩ (by omega) (by omega) (by omega) (by omega) (by omega) (by omega)
  · rw [dif_neg h]; omega
theorem lup (a b : Int) (w : World) (a0 : 0 ≤ a) (a1 : a ≤ 1000000000) (b0 : 1 ≤ b) (b1 : b ≤ 1000) : Calls Try.prog 75 #[.int .i64 a, .int .i64 b] w fun e w' => e = .returned (.int .i64 (upF a b)) ∧ w = w' := by
  go_enter Try.func75, Try.ntmps75
  go_wp2
  go_ret
  exact ⟨rfl, rfl⟩
theorem rup (a b : Int) (w : World) (a0 : 0 ≤ a) (a1 : a ≤ 1000000000) (b0 : 1 ≤ b) (b1 : b ≤ 1000) : Calls Try.prog 69 #[.int .i64 a, .int .i64 b] w fun e w' => e = .returned (.int .i64 (upF a b)) ∧ w = w' := by
  go_enter Try.func69, Try.ntmps69
  go_wp2
  go_ret
  exact ⟨rfl, rfl⟩
theorem upF_bd {a b : Int} (a0 : 0 ≤ a) (b0 : 1 ≤ b) : 0 ≤ upF a b ∧ upF a b ≤ a + b := by
  unfold upF
  constructor
  · exact Int.ediv_nonneg (by omega) (by omega)
  · exact Int.le_trans (Int.ediv_le_self _ (by omega)) (by omega)
theorem sq_bd {d : Int} (d0 : 1 ≤ d) (d1 : d ≤ 400) : 1 ≤ d * d ∧ d * d ≤ 160000 := by
  have h1 : 0 < d * d := Int.mul_pos (by omega) (by omega)
  have h2 : d * d ≤ 400 * 400 := Int.mul_le_mul d1 d1 (by omega) (by omega)
  omega
theorem pc_bd {p c : Int} (p0 : 0 ≤ p) (p1 : p ≤ 100000) (c0 : 0 ≤ c) (c1 : c ≤ 100000) : 0 ≤ p * c ∧ p * c ≤ 10000000000 := by
  have h1 : 0 ≤ p * c := Int.mul_nonneg p0 c0
  have h2 : p * c ≤ 100000 * 100000 := Int.mul_le_mul p1 c1 c0 (by omega)
  omega
set_option maxHeartbeats 1000000 in
theorem lbright (A0 A1 A2 : Option Addr) (c0 c1 c2 B : Nat) (t : Tb) (s : Sc) (d : Int) (w : World) (h : Tab w B A0 A1 A2 t) (hB : B ≤ w.heap.size) (ht : TabOk t) (hs : SceneOk s) (d0 : 1 ≤ d) (d1 : d ≤ 400) :
    Calls Try.prog 68 #[.agg #[.slice A0 t.obs.length c0, .slice A1 t.ent.length c1, .slice A2 t.r.length c2], .agg #[.int .i64 s.rise, .int .i64 s.side, .int .i64 s.turn, .int .i64 s.power], .int .i64 d] w fun x w' => x = .returned (.int .i64 (brightF t s d)) ∧ Below w.heap.size w w' := by
  have hT := Boxed.new (c0 := c0) (c1 := c1) (c2 := c2) h hB
  have hal := boxed_world (w := w) (v := #[.slice A0 t.obs.length c0, .slice A1 t.ent.length c1, .slice A2 t.r.length c2])
  generalize hW : w.alloc (.cells #[.slice A0 t.obs.length c0, .slice A1 t.ent.length c1, .slice A2 t.r.length c2] 25) = w0 at hT hal
  have hz : w0.heap.size = w.heap.size + 1 := by rw [← hW]; simp
  have HW := Lib.hid hW
  have hS := ScBox.new w0 s 40
  have hb1 : Below w0.heap.size w0 (w0.alloc (.cells #[.int .i64 s.rise, .int .i64 s.side, .int .i64 s.turn, .int .i64 s.power] 40)) := (Below.refl _ _).alloc (Nat.le_refl _) _
  generalize hW1 : w0.alloc (.cells #[.int .i64 s.rise, .int .i64 s.side, .int .i64 s.turn, .int .i64 s.power] 40) = w1 at hS hb1
  have HW1 := Lib.hid hW1
  replace hT := hT.below hb1 hT.sz
  replace hal := hal.trans (hb1.mono (by omega))
  rw [hz] at hS
  clear h hW hb1 hz hW1
  obtain ⟨⟨r0, r1⟩, ⟨s0, s1⟩, ⟨t0, t1⟩, p0, p1⟩ := hs
  have u1 := upF_bd (a := s.rise * 1000) (b := d) (by omega) d0
  have u2 := upF_bd (a := s.side * 1000) (b := d) (by omega) d0
  obtain ⟨u3, u4⟩ := u1
  obtain ⟨u5, u6⟩ := u2
  obtain ⟨cb0, cb1⟩ := coefF_bd ht (upF (s.rise * 1000) d) (upF (s.side * 1000) d + s.turn)
  obtain ⟨m0, m1⟩ := sq_bd d0 d1
  obtain ⟨m2, m3⟩ := pc_bd p0 p1 cb0 cb1
  have q0 := fun x => ext_cell hT.sz hT.q0 x
  have q1 := fun x => ext_cell hT.sz hT.q1 x
  have q2 := fun x => ext_cell hT.sz hT.q2 x
  have e0 := fun x => ext_cell hS.sz hS.q0 x
  have e1 := fun x => ext_cell hS.sz hS.q1 x
  have e2 := fun x => ext_cell hS.sz hS.q2 x
  have HT := Lib.hid fun x => (hT.below (ext_below w1.heap.size w1 x) hT.sz)
  have HZ : Hid (∀ x, B ≤ (ext w1.heap.size w1 x).heap.size) := fun x => Nat.le_trans (Nat.le_trans hT.lt (Nat.le_of_lt hT.sz)) (ext_size _ _ x)
  clear hB
  go_enter Try.func68, Try.ntmps68
  go_wp2_with fail
  rw [HW.out, HW1.out]
  refine wp_region_ext w1.heap.size (by kernel_rfl) (by kernel_rfl) ?_
  repeat (go_big_quiet_step (first
    | (go_at_call 75; exact ext_call_same (lup _ _ _ (by omega) (by omega) d0 (by omega)))
    | (go_at_call 54; exact ext_call (Nat.le_refl _) (lcoefficient _ _ _ _ _ _ B _ _ _ _ (HT.out _).tab (HZ.out _) ht))))
  refine wpQuiet_nil ?_
  intro w2 hw2
  have hb : Below w1.heap.size w1 w2 := by obtain ⟨y, rfl⟩ := hw2; exact ext_below _ _ _
  clear hw2 q0 q1 q2 e0 e1 e2
  replace hal := hal.trans (hb.mono (by have := hT.sz; omega))
  have v3 := (hS.below hb hS.sz).q3
  go_wp2
  go_ret
  exact ⟨rfl, hal⟩
end Go.Proofs.Ytihhfelhdgmceaa
