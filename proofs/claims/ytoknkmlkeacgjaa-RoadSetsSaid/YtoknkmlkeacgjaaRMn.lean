/- Contract of the reference's Minus (45). -/
import Derived.Test.YtoknkmlkeacgjaaUnf
import Derived.Test.YtoknkmlkeacgjaaRLf
import Derived.Deep.RegionHeld3
namespace Go.Proofs.Ytoknkmlkeacgjaa
open Go.RowKit
/-- What is left of one stretch, no metre moved. -/
theorem pt_cut (h : Int × Int) (s : Int × Int) : ptTo (mvOf h.1 (h.2 - h.1) (h.2 - h.1)) s 2 = (if s.1 < min s.2 h.1 then [(s.1, min s.2 h.1)] else []) ++ (if max s.1 h.2 < s.2 then [(max s.1 h.2, s.2)] else []) := by
  rw [pt_ref]
  have e : h.1 + (h.2 - h.1) = h.2 := by omega
  rw [e]
  have e1 : max s.1 h.2 + (h.2 - h.1) - (h.2 - h.1) = max s.1 h.2 := by omega
  have e2 : s.2 + (h.2 - h.1) - (h.2 - h.1) = s.2 := by omega
  rw [e1, e2]
theorem cut_one {h s : Int × Int} (hh : h.1 < h.2) (hs : s.1 < s.2) : Norm (ptTo (mvOf h.1 (h.2 - h.1) (h.2 - h.1)) s 2) ∧ (∀ p ∈ ptTo (mvOf h.1 (h.2 - h.1) (h.2 - h.1)) s 2, s.1 ≤ p.1 ∧ p.2 ≤ s.2) ∧ ∀ c, InS (ptTo (mvOf h.1 (h.2 - h.1) (h.2 - h.1)) s 2) c ↔ (InX s c ∧ ¬ InX h c) := by
  rw [pt_cut]
  by_cases c1 : s.1 < min s.2 h.1 <;> by_cases c2 : max s.1 h.2 < s.2
  · rw [if_pos c1, if_pos c2]
    refine ⟨norm_snoc.2 ⟨norm_cons.2 ⟨c1, fun q hq => by (cases hq), norm_nil⟩, c2, fun p hp => ?_⟩, fun p hp => ?_, fun c => ?_⟩
    · rw [List.mem_singleton.1 hp]; simp only; omega
    · rcases List.mem_append.1 hp with hp | hp <;> rw [List.mem_singleton.1 hp] <;> simp only <;> omega
    · rw [inS_append, inS_one, inS_one]; unfold InX; simp only; omega
  · rw [if_pos c1, if_neg c2, List.append_nil]
    refine ⟨norm_cons.2 ⟨c1, fun q hq => by (cases hq), norm_nil⟩, fun p hp => ?_, fun c => ?_⟩
    · rw [List.mem_singleton.1 hp]; simp only; omega
    · rw [inS_one]; unfold InX; simp only; omega
  · rw [if_neg c1, if_pos c2, List.nil_append]
    refine ⟨norm_cons.2 ⟨c2, fun q hq => by (cases hq), norm_nil⟩, fun p hp => ?_, fun c => ?_⟩
    · rw [List.mem_singleton.1 hp]; simp only; omega
    · rw [inS_one]; unfold InX; simp only; omega
  · rw [if_neg c1, if_neg c2, List.append_nil]
    refine ⟨norm_nil, fun p hp => by (cases hp), fun c => ⟨fun h => absurd h inS_nil, fun hc => ?_⟩⟩
    exfalso
    unfold InX at hc
    omega
theorem norm_append {a b : List (Int × Int)} (ha : Norm a) (hb : Norm b) (hab : ∀ p ∈ a, ∀ q ∈ b, p.2 < q.1) : Norm (a ++ b) := by
  refine ⟨fun p hp => ?_, List.pairwise_append.2 ⟨ha.2, hb.2, hab⟩⟩
  rcases List.mem_append.1 hp with hp | hp
  · exact ha.1 p hp
  · exact hb.1 p hp
theorem cut_inv {h : Int × Int} {xs : List (Int × Int)} (hh : h.1 < h.2) (hn : Norm xs) : ∀ k, k ≤ xs.length → Norm (strTo (mvOf h.1 (h.2 - h.1) (h.2 - h.1)) xs k) ∧ (∀ p ∈ strTo (mvOf h.1 (h.2 - h.1) (h.2 - h.1)) xs k, ∃ i, i < k ∧ (atp xs i).1 ≤ p.1 ∧ p.2 ≤ (atp xs i).2) ∧ ∀ c, InS (strTo (mvOf h.1 (h.2 - h.1) (h.2 - h.1)) xs k) c ↔ (InTo xs k c ∧ ¬ InX h c)
  | 0, _ => ⟨norm_nil, fun p hp => by (cases hp), fun c => ⟨fun hc => absurd hc inS_nil, fun ⟨⟨_, hi, _⟩, _⟩ => by omega⟩⟩
  | k + 1, hk => by
    obtain ⟨a, b, c⟩ := cut_inv hh hn k (by omega)
    obtain ⟨d, e, f⟩ := cut_one hh (hn.1 _ (atp_mem (show k < xs.length by omega)))
    simp only [strTo]
    refine ⟨norm_append a d fun p hp q hq => ?_, fun p hp => ?_, fun c' => ?_⟩
    · obtain ⟨i, hi, _, h2⟩ := b p hp
      have := norm_lt hn hi (by omega)
      have := (e q hq).1
      omega
    · rcases List.mem_append.1 hp with hp | hp
      · obtain ⟨i, hi, h1⟩ := b p hp
        exact ⟨i, by omega, h1⟩
      · exact ⟨k, by omega, e p hp⟩
    · rw [inS_append, c c', f c', inTo_succ]
      constructor
      · rintro (⟨h1, h2⟩ | ⟨h1, h2⟩)
        · exact ⟨.inl h1, h2⟩
        · exact ⟨.inr h1, h2⟩
      · rintro ⟨h1 | h1, h2⟩
        · exact .inl ⟨h1, h2⟩
        · exact .inr ⟨h1, h2⟩
theorem cut_norm {h : Int × Int} {xs : List (Int × Int)} (hh : h.1 < h.2) (hn : Norm xs) : Norm (strTo (mvOf h.1 (h.2 - h.1) (h.2 - h.1)) xs xs.length) ∧ ∀ c, InS (strTo (mvOf h.1 (h.2 - h.1) (h.2 - h.1)) xs xs.length) c ↔ (InS xs c ∧ ¬ InX h c) := by
  obtain ⟨a, _, c⟩ := cut_inv hh hn xs.length (Nat.le_refl _)
  exact ⟨a, fun c' => by rw [c c', inTo_all]⟩
/-- What Minus answers. -/
def MinRes (a b : List (Int × Int)) (w : World) (e : Ending) (w' : World) : Prop :=
  (¬ (LetL a ∧ LetL b) → e = .returned (.tuple #[.slice none 0 0, .int .i64 2])) ∧
  (LetL a ∧ LetL b → ∃ (us : List (Int × Int)) (A' : Option Addr) (c' : Nat), Norm us ∧ (∀ c, InS us c ↔ (InS a c ∧ ¬ InS b c)) ∧ us.length ≤ 10000000 ∧ e = .returned (.tuple #[.slice A' us.length c', .int .i64 0]) ∧ Pairs w' w'.heap.size A' us) ∧ Below w.heap.size w w'
theorem heldS {w2 w' : World} {b i : Nat} {x y : Value} (hb : b < w2.heap.size) (u0 : w2.cell? ⟨b, i, none⟩ = some x) (u1 : w2.cell? ⟨b, i + 1, none⟩ = some y) (h : Below w2.heap.size w2 w') :
    Below w2.heap.size w2 w' ∧ w'.cell? ⟨b, i, none⟩ = some x ∧ w'.cell? ⟨b, i + 1, none⟩ = some y :=
  ⟨h, (h.cell hb).trans u0, (h.cell (p := ⟨b, i + 1, none⟩) hb).trans u1⟩
theorem min_facts {a us : List (Int × Int)} (ha : LetL a) (n1 : Norm us) (n2 : ∀ c, InS us c → InS a c) : (∀ p ∈ us, SmS p) ∧ us.length ≤ 10000000 := by
  obtain ⟨b1, b2⟩ := un_in ha n1 n2
  have hg := met_ge n1.1
  refine ⟨fun p hp => ?_, by omega⟩
  have h1 := b1 p hp
  have h2 := n1.1 p hp
  exact ⟨⟨by omega, by omega⟩, by omega, by omega⟩
set_option maxRecDepth 100000 in
set_option maxHeartbeats 4000000 in
theorem rMinusF (A A2 : Option Addr) (c c2 B B2 : Nat) (a b : List (Int × Int)) (w : World) (h : Pairs w B A a) (hB : B ≤ w.heap.size) (hn : a.length ≤ 9223372036854775807) (h2 : Pairs w B2 A2 b) (hB2 : B2 ≤ w.heap.size) (hn2 : b.length ≤ 9223372036854775807) :
    Calls Try.prog 45 #[.slice A a.length c, .slice A2 b.length c2] w (MinRes a b w) := by
  go_enter Try.func45, Try.ntmps45
  go_wp2_with fail
  refine (rLists A c B a w h hn).mono ?_
  rintro e w1 ⟨r1, r2, hb1⟩
  have h2b := h2.below (hb1.mono hB2)
  have hB2b := Nat.le_trans hB2 hb1.size
  have hA1 := h.below (hb1.mono hB)
  by_cases ha : LetL a
  rotate_left
  · rw [r2 ha]
    have HA := Lib.hid ha
    clear r1 r2 ha
    go_wp2_with fail
    go_ret2
    exact ⟨fun _ => rfl, fun hh => absurd hh.1 HA.out, hb1⟩
  rw [r1 ha]
  have HA := Lib.hid ha
  have hal := ha.2
  clear r1 r2 ha
  go_wp2_with fail
  refine (rLists A2 c2 B2 b w1 h2b hn2).mono ?_
  rintro e w2 ⟨r1, r2, hb2⟩
  have hbw := hb1.trans (hb2.mono hb1.size)
  by_cases hb : LetL b
  rotate_left
  · rw [r2 hb]
    have HB := Lib.hid hb
    clear r1 r2 hb
    go_wp2_with fail
    go_ret2
    exact ⟨fun _ => rfl, fun hh => absurd hh.2 HB.out, hbw⟩
  rw [r1 hb]
  have HB := Lib.hid hb
  have hbl := hb.2
  clear r1 r2 hb
  have hA2 := hA1.below (hb2.mono (Nat.le_trans hB hb1.size))
  have h2c := h2b.below (hb2.mono hB2b)
  have hB2c := Nat.le_trans hB2b hb2.size
  go_wp2_with fail
  refine (rJoined A c B a w2 hA2 (Nat.le_trans (Nat.le_trans hB hb1.size) hb2.size) (by omega)).mono ?_
  rintro e w3 hu
  obtain ⟨us0, A3, c3, m1, m2, _, rfl, hP3, hb3⟩ := hu.norm HA.out.full
  have hbw3 := hbw.trans (hb3.mono hbw.size)
  have h2d := h2c.below (hb3.mono hB2c)
  have hB2d := Nat.le_trans hB2c hb3.size
  have HST : Hid (Norm us0 ∧ (∀ c, InS us0 c ↔ (InS a c ∧ ¬ InTo b 0 c)) ∧ Pairs w3 w3.heap.size A3 us0) := ⟨m1, fun c => by rw [m2 c]; exact ⟨fun h => ⟨h, fun ⟨_, hi, _⟩ => by omega⟩, fun h => h.1⟩, hP3⟩
  clear hu m1 m2 hP3 h2 h2b h2c hA1 hA2 hb1 hb2 hb3 hbw
  go_wp2_with fail
  go_loopw [6, 7] (fun out iv wr => ∃ (k : Nat) (us : List (Int × Int)) (A1 : Option Addr) (c1 : Nat), k ≤ b.length ∧ iv = .int .i64 k ∧ out = .slice A1 us.length c1 ∧ Hid (Norm us ∧ ∀ c, InS us c ↔ (InS a c ∧ ¬ InTo b k c)) ∧ Pairs wr wr.heap.size A1 us ∧ Below w3.heap.size w3 wr) (fun _ iv _ => b.length - (intOf iv).toNat)
  case atStart => exact ⟨0, us0, A3, c3, Nat.zero_le _, rfl, rfl, ⟨HST.out.1, HST.out.2.1⟩, HST.out.2.2, Below.refl _ _⟩
  case round =>
    clear HST
    obtain ⟨k, us, A1, c1, hk, rfl, rfl, hus, hP, hbx⟩ := hrel
    have hbxs := hbx.size
    obtain ⟨f1, f2⟩ := min_facts HA.out hus.out.1 (fun c hc => ((hus.out.2 c).1 hc).1)
    have HSM := Lib.hid f1
    clear f1
    by_cases hlt : k < b.length
    · obtain ⟨bb, o, rfl, hbb, hc⟩ := (h2d.below (hbx.mono hB2d)).at_ hlt
      obtain ⟨y1, y2⟩ := hc k hlt
      clear hc
      obtain ⟨l0, l1, l2⟩ := HB.out.1 k hlt
      have hbwr : bb < wr.heap.size := by omega
      have v1 : (0 : Int) ≤ (k : Int) := by omega
      have v2 : (k : Int) < (b.length : Int) := by omega
      have HTO : Hid (∀ c, InTo b (k + 1) c ↔ (InTo b k c ∨ InX (atp b k) c)) := fun c => inTo_succ
      generalize hy : atp b k = y at *
      clear hy
      have s1 : IntKind.i64.wrap (y.2 - y.1) = y.2 - y.1 := IntWalk.i64_in _ (by omega)
      go_upto_region 7 with fail
      go_region_held3 (fun w' => Below wr.heap.size wr w' ∧ w'.cell? ⟨bb, o + k * 2, none⟩ = some (.int .i64 y.1) ∧ w'.cell? ⟨bb, o + k * 2 + 1, none⟩ = some (.int .i64 y.2)) ((refine heldS hbwr y1 y2 ?_; first | assumption | exact hbm2 | exact Below.refl _ _ | exact (Below.refl _ _).drew | exact below_drewN (Below.refl _ _) _ | fail)) (first
        | (go_at_call 72; refine (rLeft y.1 (y.2 - y.1) (y.2 - y.1) A1 c1 wr.heap.size us _ ?_ ?_ ⟨⟨l0, by omega⟩, ⟨by omega, by omega⟩, by omega, by omega⟩ HSM.out f2).mono ?_; (solve | exact hP.below (And.left (by assumption))); (solve | exact Below.size (And.left (by assumption))); (rintro e wm ⟨A5, c5, rfl, hP5, hbm⟩); have hbm2 : Below wr.heap.size wr wm := Below.trans (And.left (by assumption)) (hbm.mono (Below.size (And.left (by assumption)))))
        | fail)
      all_goals
        have hbx2 := hbx.trans (hbm2.mono hbx.size)
        have HNX : Hid (Norm (strTo (mvOf y.1 (y.2 - y.1) (y.2 - y.1)) us us.length) ∧ ∀ c, InS (strTo (mvOf y.1 (y.2 - y.1) (y.2 - y.1)) us us.length) c ↔ (InS a c ∧ ¬ InTo b (k + 1) c)) := by
          obtain ⟨g1, g2⟩ := cut_norm l1 hus.out.1
          refine ⟨g1, fun c => ?_⟩
          rw [g2 c, hus.out.2 c, HTO.out c]
          constructor
          · rintro ⟨⟨h1, h2⟩, h3⟩
            exact ⟨h1, fun h => h.elim h2 h3⟩
          · rintro ⟨h1, h2⟩
            exact ⟨⟨h1, fun h => h2 (.inl h)⟩, fun h => h2 (.inr h)⟩
        go_wp2_with fail
        exact ⟨⟨k + 1, _, A5, c5, by omega, by go_num, rfl, HNX, hP5, hbx2⟩, by simp [intOf]; omega⟩
    · obtain rfl : k = b.length := by omega
      have hbf := hbw3.trans (hbx.mono hbw3.size)
      go_wp2
      go_ret2
      exact ⟨fun hh => absurd ⟨HA.out, HB.out⟩ hh, fun _ => ⟨us, A1, c1, hus.out.1, fun c => by rw [hus.out.2 c, inTo_all], f2, rfl, hP⟩, hbf⟩
end Go.Proofs.Ytoknkmlkeacgjaa
