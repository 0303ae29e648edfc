/- Contracts of Accepted (both texts). -/
import Derived.Test.YtihhfelhdgmceaaVt
namespace Go.Proofs.Ytihhfelhdgmceaa
open Go.RowKit
def coefOk (v : Int) : Prop := 0 ≤ v ∧ v ≤ 100000
def accOk (xs : List Int) (least : Int) : Prop := 1 ≤ xs.length ∧ xs.length ≤ 100 ∧ coefOk least ∧ ∀ j, j < xs.length → coefOk (at0 xs j)
def sumI (xs : List Int) : Nat → Int
  | 0 => 0
  | k + 1 => sumI xs k + at0 xs k
def enough (xs : List Int) (least : Int) (j : Nat) : Prop := 8 * least ≤ 10 * at0 xs j
def AccIs (xs : List Int) (least : Int) (b : Bool) (er : Int) : Prop :=
  (accOk xs least → (b = true ↔ (∀ j, j < xs.length → enough xs least j) ∧ least ≤ sumI xs xs.length / xs.length) ∧ er = 0) ∧ (¬ accOk xs least → b = false ∧ er = 2)
theorem accIs_one {xs : List Int} {least : Int} {b b' : Bool} {er er' : Int} (h : AccIs xs least b er) (h' : AccIs xs least b' er') : b = b' ∧ er = er' := by
  by_cases ho : accOk xs least
  · obtain ⟨h1, h2⟩ := h.1 ho
    obtain ⟨h3, h4⟩ := h'.1 ho
    exact ⟨Bool.eq_iff_iff.2 (h1.trans h3.symm), h2.trans h4.symm⟩
  · obtain ⟨h1, h2⟩ := h.2 ho
    obtain ⟨h3, h4⟩ := h'.2 ho
    exact ⟨h1.trans h3.symm, h2.trans h4.symm⟩
def AccRes (xs : List Int) (least : Int) (w : World) (e : Ending) (w' : World) : Prop := ∃ (b : Bool) (er : Int), AccIs xs least b er ∧ e = .returned (.tuple #[.bool b, .int .i64 er]) ∧ w = w'
theorem sumI_bd {xs : List Int} : ∀ k, (∀ j, j < k → coefOk (at0 xs j)) → 0 ≤ sumI xs k ∧ sumI xs k ≤ k * 100000
  | 0, _ => by simp [sumI]
  | k + 1, h => by
    have := sumI_bd k fun j hj => h j (by omega)
    have hk := h k (by omega)
    unfold coefOk at hk
    simp only [sumI]
    omega
theorem acc_bad {xs : List Int} {least : Int} (h : ¬ accOk xs least) : AccIs xs least false 2 := ⟨fun h' => absurd h' h, fun _ => ⟨rfl, rfl⟩⟩
theorem lAccepted (A : Option Addr) (c B : Nat) (xs : List Int) (least : Int) (w : World) (h : Ints w B A xs) (hn : xs.length ≤ 200) :
    Calls Try.prog 43 #[.slice A xs.length c, .int .i64 least] w (AccRes xs least w) := by
  by_cases h1 : 1 ≤ xs.length
  · by_cases h2 : xs.length ≤ 100
    · by_cases h3 : coefOk least
      · have hi := inB_t h3.1 h3.2
        obtain ⟨b, off, rfl, hb, hc⟩ := h.at_ (k := 0) (by omega)
        have HC := Lib.hid hc
        have H3 := Lib.hid h3
        obtain ⟨l0, l1⟩ := h3
        clear hc h
        go_enter Try.func43, Try.ntmps43
        go_wp2_with (go_at_call 58; refine (lwithin _ _ _ _).mono ?_; rintro e w' ⟨rfl, rfl⟩)
        go_loop [6, 7, 25] (fun s g i => ∃ (k : Nat) (bb : Bool), k ≤ xs.length ∧ i = .int .i64 k ∧ s = .int .i64 (sumI xs k) ∧ g = .bool bb ∧ Hid (bb = true ↔ ∀ j, j < k → enough xs least j) ∧ Hid (∀ j, j < k → coefOk (at0 xs j))) (fun _ _ i => xs.length - (intOf i).toNat)
        case atStart => exact ⟨0, true, by omega, rfl, rfl, rfl, ⟨fun _ j hj => absurd hj (by omega), fun _ => rfl⟩, hid_none⟩
        case round =>
          obtain ⟨k, bb, hk, rfl, rfl, rfl, hg, ha⟩ := hrel
          obtain ⟨b0, b1⟩ := sumI_bd k ha.out
          by_cases hlt : k < xs.length
          · have hck := HC.out k hlt
            by_cases hv : coefOk (at0 xs k)
            · have hiv := inB_t hv.1 hv.2
              have HV := Lib.hid hv
              obtain ⟨v0, v1⟩ := hv
              cases bb with
              | true =>
                by_cases g2 : 8 * least ≤ 10 * at0 xs k
                · have HG := Lib.hid g2
                  go_wp2_with (go_at_call 58; refine (lwithin _ _ _ _).mono ?_; rintro e w' ⟨rfl, rfl⟩)
                  exact ⟨⟨k + 1, true, by omega, by go_num, rfl, rfl, ⟨fun _ => hid_more (fun j hj => hg.out.1 (by simp) j hj) HG.out, fun _ => rfl⟩, hid_more ha HV.out⟩, by simp [intOf]; omega⟩
                · have HG : Hid (¬ enough xs least k) := fun h => g2 h
                  go_wp2_with (go_at_call 58; refine (lwithin _ _ _ _).mono ?_; rintro e w' ⟨rfl, rfl⟩)
                  exact ⟨⟨k + 1, false, by omega, by go_num, rfl, by simp; omega, ⟨fun h => (by cases h), fun h => absurd (h k (by omega)) HG.out⟩, hid_more ha HV.out⟩, by simp [intOf]; omega⟩
              | false =>
                go_wp2_with (go_at_call 58; refine (lwithin _ _ _ _).mono ?_; rintro e w' ⟨rfl, rfl⟩)
                exact ⟨⟨k + 1, false, by omega, by go_num, rfl, rfl, ⟨fun h => (by cases h), fun h => hg.out.2 fun j hj => h j (by omega)⟩, hid_more ha HV.out⟩, by simp [intOf]; omega⟩
            · have hiv := inB_f hv
              go_wp2_with (go_at_call 58; refine (lwithin _ _ _ _).mono ?_; rintro e w' ⟨rfl, rfl⟩)
              go_ret2
              exact ⟨false, 2, acc_bad fun h => hv (h.2.2.2 k hlt), rfl, rfl⟩
          · obtain rfl : k = xs.length := by omega
            have HO : Hid (accOk xs least) := ⟨h1, h2, H3.out, ha.out⟩
            cases bb with
            | true =>
              go_wp2
              go_ret2
              refine ⟨_, 0, ⟨fun _ => ⟨?_, rfl⟩, fun h => absurd HO.out h⟩, rfl, rfl⟩
              simp only [decide_eq_true_eq]
              exact ⟨fun h => ⟨hg.out.1 (by simp), h⟩, fun h => h.2⟩
            | false =>
              go_wp2
              go_ret2
              exact ⟨false, 0, ⟨fun _ => ⟨⟨fun h => (by cases h), fun h => hg.out.2 h.1⟩, rfl⟩, fun h => absurd HO.out h⟩, rfl, rfl⟩
      · have hi := inB_f h3
        go_enter Try.func43, Try.ntmps43
        go_wp2_with (go_at_call 58; refine (lwithin _ _ _ _).mono ?_; rintro e w' ⟨rfl, rfl⟩)
        go_ret2
        exact ⟨false, 2, acc_bad fun h => h3 h.2.2.1, rfl, rfl⟩
    · go_enter Try.func43, Try.ntmps43
      go_wp2
      go_ret2
      exact ⟨false, 2, acc_bad fun h => absurd h.2.1 (by omega), rfl, rfl⟩
  · go_enter Try.func43, Try.ntmps43
    go_wp2
    go_ret2
    exact ⟨false, 2, acc_bad fun h => absurd h.1 (by omega), rfl, rfl⟩
theorem rAccepted (A : Option Addr) (c B : Nat) (xs : List Int) (least : Int) (w : World) (h : Ints w B A xs) (hn : xs.length ≤ 200) :
    Calls Try.prog 44 #[.slice A xs.length c, .int .i64 least] w (AccRes xs least w) := by
  by_cases h1 : 1 ≤ xs.length
  · by_cases h2 : xs.length ≤ 100
    · by_cases h3 : coefOk least
      · have hi := inB_t h3.1 h3.2
        obtain ⟨b, off, rfl, hb, hc⟩ := h.at_ (k := 0) (by omega)
        have HC := Lib.hid hc
        have H3 := Lib.hid h3
        obtain ⟨l0, l1⟩ := h3
        clear hc h
        go_enter Try.func44, Try.ntmps44
        go_wp2_with (go_at_call 56; refine (rwithin _ _ _ _).mono ?_; rintro e w' ⟨rfl, rfl⟩)
        go_loop [6, 7, 8] (fun s g i => ∃ (k : Nat) (bb : Bool), k ≤ xs.length ∧ i = .int .i64 k ∧ s = .int .i64 (sumI xs k) ∧ g = .bool bb ∧ Hid (bb = true ↔ ∀ j, j < k → enough xs least j) ∧ Hid (∀ j, j < k → coefOk (at0 xs j))) (fun _ _ i => xs.length - (intOf i).toNat)
        case atStart => exact ⟨0, true, by omega, rfl, rfl, rfl, ⟨fun _ j hj => absurd hj (by omega), fun _ => rfl⟩, hid_none⟩
        case round =>
          obtain ⟨k, bb, hk, rfl, rfl, rfl, hg, ha⟩ := hrel
          obtain ⟨b0, b1⟩ := sumI_bd k ha.out
          by_cases hlt : k < xs.length
          · have hck := HC.out k hlt
            by_cases hv : coefOk (at0 xs k)
            · have hiv := inB_t hv.1 hv.2
              have HV := Lib.hid hv
              obtain ⟨v0, v1⟩ := hv
              cases bb with
              | true =>
                by_cases g2 : 8 * least ≤ 10 * at0 xs k
                · have HG := Lib.hid g2
                  go_wp2_with (go_at_call 56; refine (rwithin _ _ _ _).mono ?_; rintro e w' ⟨rfl, rfl⟩)
                  exact ⟨⟨k + 1, true, by omega, by go_num, rfl, rfl, ⟨fun _ => hid_more (fun j hj => hg.out.1 (by simp) j hj) HG.out, fun _ => rfl⟩, hid_more ha HV.out⟩, by simp [intOf]; omega⟩
                · have HG : Hid (¬ enough xs least k) := fun h => g2 h
                  go_wp2_with (go_at_call 56; refine (rwithin _ _ _ _).mono ?_; rintro e w' ⟨rfl, rfl⟩)
                  exact ⟨⟨k + 1, false, by omega, by go_num, rfl, by simp; omega, ⟨fun h => (by cases h), fun h => absurd (h k (by omega)) HG.out⟩, hid_more ha HV.out⟩, by simp [intOf]; omega⟩
              | false =>
                go_wp2_with (go_at_call 56; refine (rwithin _ _ _ _).mono ?_; rintro e w' ⟨rfl, rfl⟩)
                exact ⟨⟨k + 1, false, by omega, by go_num, rfl, rfl, ⟨fun h => (by cases h), fun h => hg.out.2 fun j hj => h j (by omega)⟩, hid_more ha HV.out⟩, by simp [intOf]; omega⟩
            · have hiv := inB_f hv
              go_wp2_with (go_at_call 56; refine (rwithin _ _ _ _).mono ?_; rintro e w' ⟨rfl, rfl⟩)
              go_ret2
              exact ⟨false, 2, acc_bad fun h => hv (h.2.2.2 k hlt), rfl, rfl⟩
          · obtain rfl : k = xs.length := by omega
            have HO : Hid (accOk xs least) := ⟨h1, h2, H3.out, ha.out⟩
            cases bb with
            | true =>
              go_wp2
              go_ret2
              refine ⟨_, 0, ⟨fun _ => ⟨?_, rfl⟩, fun h => absurd HO.out h⟩, rfl, rfl⟩
              simp only [decide_eq_true_eq]
              exact ⟨fun h => ⟨hg.out.1 (by simp), h⟩, fun h => h.2⟩
            | false =>
              go_wp2
              go_ret2
              exact ⟨false, 0, ⟨fun _ => ⟨⟨fun h => (by cases h), fun h => hg.out.2 h.1⟩, rfl⟩, fun h => absurd HO.out h⟩, rfl, rfl⟩
      · have hi := inB_f h3
        go_enter Try.func44, Try.ntmps44
        go_wp2_with (go_at_call 56; refine (rwithin _ _ _ _).mono ?_; rintro e w' ⟨rfl, rfl⟩)
        go_ret2
        exact ⟨false, 2, acc_bad fun h => h3 h.2.2.1, rfl, rfl⟩
    · go_enter Try.func44, Try.ntmps44
      go_wp2
      go_ret2
      exact ⟨false, 2, acc_bad fun h => absurd h.2.1 (by omega), rfl, rfl⟩
  · go_enter Try.func44, Try.ntmps44
    go_wp2
    go_ret2
    exact ⟨false, 2, acc_bad fun h => absurd h.1 (by omega), rfl, rfl⟩
end Go.Proofs.Ytihhfelhdgmceaa
