/- Statement LightAges: for every coefficient, part and years the law returns true: Aged answers as the reference does, and m and then n years are m + n years. No condition. -/
import Derived.Test.YtihhfelhdgmceaaFirst
import Derived.Test.YtihhfelhdgmceaaFrame2
namespace Go.Proofs.Ytihhfelhdgmceaa
open Go.RowKit
theorem agedF_add (k : Int) (n : Nat) : ∀ (m : Nat) (r : Int), agedF k (m + n) r = agedF k n (agedF k m r) := by
  intro m
  induction m with
  | zero => intro r; rw [Nat.zero_add]; rfl
  | succ m ih => intro r; rw [show m + 1 + n = (m + n) + 1 from by omega]; simp only [agedF]; exact ih _
theorem wAges (r k : Int) (m n : Nat) (hm : m < 256) (hn : n < 256) (w : World) :
    Calls Try.prog 4 #[.int .i64 r, .int .i64 k, .agg #[.int .u8 m, .int .u8 n]] w fun x w' => x = .returned (.bool true) ∧ Below w.heap.size w w' := by
  have hal : Below w.heap.size w (w.alloc (.cells #[.int .u8 m, .int .u8 n] 33)) := (Below.refl _ _).alloc (Nat.le_refl _) _
  go_enter Try.func4, Try.ntmps4
  go_wp2_with fail
  go_quiet (fail)
  obtain ⟨w1, hw1⟩ : ∃ wx, wx = (w.alloc (.cells #[.int .u8 (m : Int), .int .u8 (n : Int)] 33)).drewN nq := ⟨_, rfl⟩
  rw [← hw1]
  replace hal : Below w.heap.size w w1 := hw1 ▸ below_drewN hal nq
  clear hw1
  go_wp2_with fail
  refine (lAged _ _ _ _).mono ?_
  rintro x w2 ⟨h1, h2, rfl⟩
  by_cases hok : 0 ≤ r ∧ r ≤ 100000 ∧ ageOk k m
  · rw [h1 hok]
    clear h1 h2
    go_wp2_with fail
    refine (rAged _ _ _ _).mono ?_
    rintro x w2 ⟨h1, h2, rfl⟩
    rw [h1 hok]
    clear h1 h2
    simp only [Int.toNat_natCast]
    by_cases h300 : m + n ≤ 300
    · go_wp2_with fail
      refine (lAged _ _ _ _).mono ?_
      rintro x w2 ⟨h1, h2, rfl⟩
      rw [h1 ⟨hok.1, hok.2.1, hok.2.2.1, by omega, by omega⟩]
      clear h1 h2
      have HA := Lib.hid (agedF_add k n m r)
      obtain ⟨g0, g1⟩ := agedF_bd k hok.2.2.1.1 hok.2.2.1.2 m r hok.1
      obtain ⟨g2, g3⟩ := agedF_bd k hok.2.2.1.1 hok.2.2.1.2 n (agedF k m r) g0
      rw [show ((m : Int) + (n : Int)).toNat = m + n from by omega, HA.out]
      have HOK := Lib.hid hok
      obtain ⟨r0, r1, hk, _⟩ := hok
      go_wp2_with fail
      refine (lAged _ _ _ _).mono ?_
      rintro x w2 ⟨h1, h2, rfl⟩
      rw [h1 ⟨g0, by omega, hk, by omega, by omega⟩]
      clear h1 h2
      simp only [Int.toNat_natCast]
      go_wp2_with fail
      refine (lAged _ _ _ _).mono ?_
      rintro x w2 ⟨h1, h2, rfl⟩
      rw [h2 fun h => by have := h.2.2.2.1; omega]
      clear h1 h2
      go_wp2_with fail
      refine (lAged _ _ _ _).mono ?_
      rintro x w2 ⟨h1, h2, rfl⟩
      rw [h2 fun h => by have := h.2.2.2.2; omega]
      clear h1 h2
      go_wp2_with fail
      refine (lfirst _).mono ?_
      rintro x w5 ⟨rfl, hb⟩
      go_wp2
      go_ret
      exact ⟨rfl, hal.trans (hb.mono hal.size)⟩
    · go_wp2_with fail
      refine (lfirst _).mono ?_
      rintro x w5 ⟨rfl, hb⟩
      go_wp2
      go_ret
      exact ⟨rfl, hal.trans (hb.mono hal.size)⟩
  · rw [h2 hok]
    clear h1 h2
    go_wp2_with fail
    refine (rAged _ _ _ _).mono ?_
    rintro x w2 ⟨h1, h2, rfl⟩
    rw [h2 hok]
    clear h1 h2
    go_wp2_with fail
    refine (lfirst _).mono ?_
    rintro x w5 ⟨rfl, hb⟩
    go_wp2
    go_ret
    exact ⟨rfl, hal.trans (hb.mono hal.size)⟩
namespace LawAges
open Go.ChangeShapes Go.WideShapes Go.ChangeAt Go.RowKit
set_option maxRecDepth 100000 in
theorem lifted (os : Os) (started : os.Started) (H : Type) (enc : TypeId × Value → H) :
    ReturnsInHanded {} Try.checked os 4 .any (Rows.lightAgesSpec.pre6 enc Try.prog Try.f4 Rows.lightAgesRow.domain false) (Rows.lightAgesSpec.post enc Try.prog Try.f4 false true false false) := by
  refine returnsInHanded_of_change (C := Try.checked) own started (by kernel_rfl) Try.func4
    (ChangeSpec.witness6 (enc := enc) (C := Try.checked) false ⟨#[], #[.int .i64 0, .int .i64 0, .agg #[.int .u8 0, .int .u8 0]], []⟩ 8 (by kernel_rfl) (by kernel_rfl) (by kernel_rfl) (by kernel_rfl)) ?_
  intro W base args ds gs before hval hW hcnd _
  refine law_contract rfl rfl (by simp; decide +kernel) (fun ds hds => ?_) W base args ds gs before hW fun p hA => ?_
  · match ds, hds with
    | [d1, d2, d3], _ => rfl
  · obtain ⟨v0, v1, v2, d0, d1, d2, p0, p1, p2, rfl, rfl, rfl, h0, h1, h2⟩ := trodAll_three hA
    obtain ⟨r, rfl, rfl, rfl, wr⟩ := open_int Try.underlying3 (hval 0 3 _ rfl rfl) h0
    obtain ⟨k, rfl, rfl, rfl, wk⟩ := open_int Try.underlying3 (hval 1 3 _ rfl rfl) h1
    obtain ⟨m, n, rfl, hm, hn⟩ := u8s (hval 2 33 _ rfl rfl) h2
    exact wAges r k m n hm hn W
theorem proved : Rows.LightAgesSaid :=
  OpenClaim.holds_of_wide 4 Try.f4 rfl rfl rfl rfl rfl rfl rfl ⟨rfl, rfl, rfl, rfl, rfl⟩ rfl rfl rfl rfl rfl (by kernel_rfl) Try.func4 (by kernel_rfl)
    (of_decide_eq_true (by kernel_rfl)) (by unfold Func.isWrapper; rw [if_neg (of_decide_eq_false (by kernel_rfl))]; exact ⟨rfl, rfl⟩)
    (fun os started H enc _ => lifted os started H enc)
end LawAges
end Go.Proofs.Ytihhfelhdgmceaa
