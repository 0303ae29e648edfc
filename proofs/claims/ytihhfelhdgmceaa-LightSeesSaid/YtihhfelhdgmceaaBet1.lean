/- Contracts of SameInts, slices.Equal and Better (both texts). -/
import Derived.Test.YtihhfelhdgmceaaShelf
import Derived.Test.YtihhfelhdgmceaaBoxed
import Derived.Test.YtihhfelhdgmceaaVr
namespace Go.Proofs.Ytihhfelhdgmceaa
open Go.RowKit
def sameB (xs ys : List Int) : Bool := decide (xs = ys)
theorem list_eq {xs ys : List Int} (hl : xs.length = ys.length) (h : ∀ j, j < xs.length → at0 xs j = at0 ys j) : xs = ys := by
  apply List.ext_getElem hl
  intro i h1 h2
  have := h i h1
  simpa [at0, h1, h2] using this
theorem lEqual (A A' : Option Addr) (c c' B B' : Nat) (xs ys : List Int) (w : World) (h : Ints w B A xs) (h' : Ints w B' A' ys) (hn : xs.length ≤ 100000) (hn' : ys.length ≤ 100000) :
    Calls Try.prog 71 #[.slice A xs.length c, .slice A' ys.length c'] w fun e w' => e = .returned (.bool (sameB xs ys)) ∧ Drew w w' := by
  by_cases hl : xs.length = ys.length
  · by_cases h0 : xs.length = 0
    · have hx : xs = [] := List.eq_nil_of_length_eq_zero h0
      have hy : ys = [] := List.eq_nil_of_length_eq_zero (by omega)
      subst hx
      subst hy
      refine (Try.slices_Equal_int_empty A A' c 0 c' w (by omega)).mono ?_
      rintro e w' ⟨rfl, rfl⟩
      exact ⟨rfl, Drew.refl _⟩
    · obtain ⟨b, o, rfl, _, hc⟩ := h.at_ (k := 0) (by omega)
      obtain ⟨b', o', rfl, _, hc'⟩ := h'.at_ (k := 0) (by omega)
      refine (Try.slices_Equal_int b o xs.length c b' o' ys.length c' xs ys w (Nat.le_refl _) (Nat.le_refl _) (by omega) (by omega) hc hc').mono ?_
      rintro e w' ⟨rfl, hd⟩
      refine ⟨ret_bool ?_, hd⟩
      rw [List.take_length, List.take_length]
      unfold sameB
      by_cases e : xs = ys <;> simp [e]
  · refine (Try.slices_Equal_int_lens A A' xs.length c ys.length c' w hl).mono ?_
    rintro e w' ⟨rfl, rfl⟩
    have hne : xs ≠ ys := fun e => hl (by rw [e])
    exact ⟨ret_bool (by simp [sameB, hne]), Drew.refl _⟩
theorem rSameInts (A A' : Option Addr) (c c' B B' : Nat) (xs ys : List Int) (w : World) (h : Ints w B A xs) (h' : Ints w B' A' ys) (hn : xs.length ≤ 100000) (_hn' : ys.length ≤ 100000) :
    Calls Try.prog 35 #[.slice A xs.length c, .slice A' ys.length c'] w fun e w' => e = .returned (.bool (sameB xs ys)) ∧ Drew w w' := by
  by_cases hl : xs.length = ys.length
  · have HL := Lib.hid hl
    have hlb : ((xs.length : Int) != (ys.length : Int)) = false := by simp [hl]
    clear hl
    go_enter Try.func35, Try.ntmps35
    go_wp2
    go_loopw [5] (fun i wr => ∃ k : Nat, k ≤ xs.length ∧ i = .int .i64 k ∧ Hid (∀ j, j < k → at0 xs j = at0 ys j) ∧ Drew w wr) (fun i _ => xs.length - (intOf i).toNat)
    case atStart => exact ⟨0, Nat.zero_le _, rfl, hid_none, Drew.refl _⟩
    case round =>
      obtain ⟨k, hk, rfl, ha, hd⟩ := hrel
      by_cases hlt : k < xs.length
      · have hlt' : k < ys.length := by have := HL.out; omega
        obtain ⟨b, o, rfl, _, hc⟩ := (hd.ints h).at_ hlt
        have hck := hc k hlt
        have HC := Lib.hid hc
        clear hc
        obtain ⟨b', o', hA', _, hc'⟩ := (hd.ints h').at_ hlt'
        have hck' := hc' k hlt'
        have HC' := Lib.hid hc'
        clear hc' h h'
        subst hA'
        by_cases he : at0 xs k = at0 ys k
        · have HE := Lib.hid he
          have heb : (at0 xs k != at0 ys k) = false := by simp [he]
          clear he
          go_wp2_with fail
          go_quiet (fail)
          go_wp2
          exact ⟨⟨k + 1, by omega, by go_num, hid_more ha HE.out, hd.drewN nq⟩, by simp [intOf]; omega⟩
        · have HE := Lib.hid he
          have heb : (at0 xs k != at0 ys k) = true := by simp [he]
          clear he
          go_wp2_with fail
          go_quiet (fail)
          go_wp2
          go_ret
          have hne : xs ≠ ys := fun e => HE.out (by rw [e])
          exact ⟨ret_bool (by simp [sameB, hne]), hd.drewN nq⟩
      · have heq : Hid (xs = ys) := list_eq HL.out fun j hj => ha.out j (by omega)
        go_wp2
        go_ret
        exact ⟨ret_bool (by simp [sameB, heq.out]), hd⟩
  · have hne : Hid (xs ≠ ys) := fun e => hl (by rw [e])
    have hlb : ((xs.length : Int) != (ys.length : Int)) = true := by rw [bne_iff_ne]; omega
    clear hl
    go_enter Try.func35, Try.ntmps35
    go_wp2
    go_ret
    exact ⟨ret_bool (by simp [sameB, hne.out]), Drew.refl _⟩
def betAt (t u : Tb) (i : Nat) : Prop := ∀ k, k < t.ent.length → cf u i k ≤ cf t i k
def BetIs (t u : Tb) (b : Bool) (er : Int) : Prop :=
  (¬ (TabOk t ∧ TabOk u) → b = false ∧ er = 30) ∧ (TabOk t ∧ TabOk u → (b = true ↔ t.obs = u.obs ∧ t.ent = u.ent ∧ ∀ i, i < t.r.length → betAt t u i) ∧ er = 0)
theorem betIs_one {t u : Tb} {b b' : Bool} {er er' : Int} (h : BetIs t u b er) (h' : BetIs t u b' er') : b = b' ∧ er = er' := by
  by_cases ho : TabOk t ∧ TabOk u
  · obtain ⟨h1, h2⟩ := h.2 ho
    obtain ⟨h3, h4⟩ := h'.2 ho
    exact ⟨Bool.eq_iff_iff.2 (h1.trans h3.symm), h2.trans h4.symm⟩
  · obtain ⟨h1, h2⟩ := h.1 ho
    obtain ⟨h3, h4⟩ := h'.1 ho
    exact ⟨h1.trans h3.symm, h2.trans h4.symm⟩
def BetRes (t u : Tb) (w : World) (e : Ending) (w' : World) : Prop := ∃ (b : Bool) (er : Int), BetIs t u b er ∧ e = .returned (.tuple #[.bool b, .int .i64 er]) ∧ Below w.heap.size w w'
theorem bet_err {t u : Tb} (h : ¬ (TabOk t ∧ TabOk u)) : BetIs t u false 30 := ⟨fun _ => ⟨rfl, rfl⟩, fun h' => absurd h' h⟩
theorem bet_no {t u : Tb} (ht : TabOk t) (hu : TabOk u) (h : ¬ (t.obs = u.obs ∧ t.ent = u.ent ∧ ∀ i, i < t.r.length → betAt t u i)) : BetIs t u false 0 :=
  ⟨fun h' => absurd ⟨ht, hu⟩ h', fun _ => ⟨⟨fun h'' => (by cases h''), fun h'' => absurd h'' h⟩, rfl⟩⟩
set_option maxRecDepth 100000 in
set_option maxHeartbeats 2000000 in
theorem lBetter (A0 A1 A2 D0 D1 D2 : Option Addr) (c0 c1 c2 d0 d1 d2 B : Nat) (t u : Tb) (w : World) (h : Tab w B A0 A1 A2 t) (h' : Tab w B D0 D1 D2 u) (hB : B ≤ w.heap.size) (hn : Small t) (hn' : Small u) :
    Calls Try.prog 41 #[.agg #[.slice A0 t.obs.length c0, .slice A1 t.ent.length c1, .slice A2 t.r.length c2], .agg #[.slice D0 u.obs.length d0, .slice D1 u.ent.length d1, .slice D2 u.r.length d2]] w (BetRes t u w) := by
  have hT := Boxed.new (c0 := c0) (c1 := c1) (c2 := c2) h hB
  have hal := boxed_world (w := w) (v := #[.slice A0 t.obs.length c0, .slice A1 t.ent.length c1, .slice A2 t.r.length c2])
  generalize hW : w.alloc (.cells #[.slice A0 t.obs.length c0, .slice A1 t.ent.length c1, .slice A2 t.r.length c2] 25) = w0 at hT hal
  have hz : w0.heap.size = w.heap.size + 1 := by rw [← hW]; simp
  have HW := Lib.hid hW
  have hU := Boxed.new (c0 := d0) (c1 := d1) (c2 := d2) (w := w0) (B := B) (h'.keep fun p hp => hal.cell (by omega)) (by omega)
  have hb1 := boxed_world (w := w0) (v := #[.slice D0 u.obs.length d0, .slice D1 u.ent.length d1, .slice D2 u.r.length d2])
  generalize hW1 : w0.alloc (.cells #[.slice D0 u.obs.length d0, .slice D1 u.ent.length d1, .slice D2 u.r.length d2] 25) = w1 at hU hb1
  have HW1 := Lib.hid hW1
  replace hT := hT.below hb1 hT.sz
  replace hal := hal.trans (hb1.mono (by omega))
  rw [hz] at hU
  clear h h' hW hb1 hz hW1
  obtain ⟨q0, q1, q2⟩ := And.intro hT.q0 (And.intro hT.q1 hT.q2)
  obtain ⟨u0, u1, u2⟩ := And.intro hU.q0 (And.intro hU.q1 hU.q2)
  by_cases ht : TabOk t
  · have e1 := tabB_t ht
    go_enter Try.func41, Try.ntmps41
    go_wp2_with fail
    rw [HW.out, HW1.out]
    refine (lValidTable _ _ _ _ _ _ B _ _ hT.tab (by have := hT.lt; have := hT.sz; omega) hn).mono ?_
    rintro x w2 ⟨rfl, hb⟩
    clear HW HW1
    replace hal := hal.trans (hb.mono hal.size)
    replace hT := hT.below hb hT.sz
    replace hU := hU.below hb hU.sz
    clear q0 q1 q2 u0 u1 u2 hb
    obtain ⟨q0, q1, q2⟩ := And.intro hT.q0 (And.intro hT.q1 hT.q2)
    obtain ⟨u0, u1, u2⟩ := And.intro hU.q0 (And.intro hU.q1 hU.q2)
    by_cases hu : TabOk u
    · have e2 := tabB_t hu
      go_wp2_with fail
      refine (lValidTable _ _ _ _ _ _ B _ _ hU.tab (by have := hU.lt; have := hU.sz; omega) hn').mono ?_
      rintro x w3 ⟨rfl, hb⟩
      replace hal := hal.trans (hb.mono hal.size)
      replace hT := hT.below hb hT.sz
      replace hU := hU.below hb hU.sz
      clear q0 q1 q2 u0 u1 u2 hb
      obtain ⟨q0, q1, q2⟩ := And.intro hT.q0 (And.intro hT.q1 hT.q2)
      obtain ⟨u0, u1, u2⟩ := And.intro hU.q0 (And.intro hU.q1 hU.q2)
      go_wp2_with fail
      refine (lEqual _ _ _ _ _ _ _ _ _ hT.tab.o hU.tab.o (by have := hn.1; omega) (by have := hn'.1; omega)).mono ?_
      rintro x w4 ⟨rfl, hd⟩
      replace hal := hal.trans (hd.below _)
      replace hT := hT.below (hd.below _) hT.sz
      replace hU := hU.below (hd.below _) hU.sz
      clear q0 q1 q2 u0 u1 u2 hd
      obtain ⟨q0, q1, q2⟩ := And.intro hT.q0 (And.intro hT.q1 hT.q2)
      obtain ⟨u0, u1, u2⟩ := And.intro hU.q0 (And.intro hU.q1 hU.q2)
      by_cases ho : t.obs = u.obs
      · have o1 : sameB t.obs u.obs = true := by simp [sameB, ho]
        have HO := Lib.hid ho
        clear ho
        go_wp2_with fail
        refine (lEqual _ _ _ _ _ _ _ _ _ hT.tab.e hU.tab.e (by have := hn.2.1; omega) (by have := hn'.2.1; omega)).mono ?_
        rintro x w5 ⟨rfl, hd⟩
        replace hal := hal.trans (hd.below _)
        replace hT := hT.below (hd.below _) hT.sz
        replace hU := hU.below (hd.below _) hU.sz
        clear q0 q1 q2 u0 u1 u2 hd
        obtain ⟨q0, q1, q2⟩ := And.intro hT.q0 (And.intro hT.q1 hT.q2)
        obtain ⟨u0, u1, u2⟩ := And.intro hU.q0 (And.intro hU.q1 hU.q2)
        by_cases he : t.ent = u.ent
        · have o2 : sameB t.ent u.ent = true := by simp [sameB, he]
          have HE := Lib.hid he
          clear he
          have HT := Lib.hid ht
          have HU := Lib.hid hu
          have lr : t.r.length ≤ 6 := by have := ht.2.2.1; have := ht.1.2.1; omega
          have hr0 : 0 < t.r.length := by have := ht.2.2.1; have := ht.1.1; omega
          have hur : Hid (u.r.length = t.r.length) := by have h1 := ht.2.2.1; have h2 := hu.2.2.1; have h3 := congrArg List.length HO.out; exact (by omega : u.r.length = t.r.length)
          obtain ⟨b2, o2', rfl, _, hrows⟩ := hT.tab.r.form hr0
          obtain ⟨b3, o3, rfl, _, hrowu⟩ := hU.tab.r.form (by have := hur.out; omega)
          have HRT := Lib.hid hrows
          have HRU := Lib.hid hrowu
          clear hrows hrowu ht hu
          go_wp2_with fail
          go_loopw [33] (fun i wr => ∃ k : Nat, k ≤ t.r.length ∧ i = .int .i64 k ∧ Hid (∀ j, j < k → betAt t u j) ∧ Drew w5 wr) (fun i _ => t.r.length - (intOf i).toNat)
          case atStart => exact ⟨0, Nat.zero_le _, rfl, hid_none, Drew.refl _⟩
          case round =>
            obtain ⟨k, hk, rfl, ha, hdr⟩ := hrel
            have r0 := (hdr.cell _).trans q2
            have r1 := (hdr.cell _).trans u2
            by_cases hlt : k < t.r.length
            · obtain ⟨Ak, Ck, hckt, hikt⟩ := HRT.out k hlt
              obtain ⟨Dk, Ek, hcku, hiku⟩ := HRU.out k (by have := hur.out; omega)
              have hltu : k < u.r.length := by have := hur.out; omega
              have hck := (hdr.cell _).trans hckt
              have hcu := (hdr.cell _).trans hcku
              have LT := Lib.hid (HT.out.2.2.2 k hlt).1
              have LU := Lib.hid (HU.out.2.2.2 k hltu).1
              have EL := Lib.hid (congrArg List.length HE.out)
              have l6 : (at1 t.r k).length ≤ 6 := by have := LT.out; have := HT.out.2.1.2.1; omega
              have HCT := Lib.hid hckt
              have HCU := Lib.hid hcku
              clear hckt hcku
              go_wp2_with fail
              obtain ⟨wo, rfl⟩ : ∃ wo : World, wo = wr := ⟨_, rfl⟩
              go_loopw [42] (fun i wr => ∃ m : Nat, m ≤ (at1 t.r k).length ∧ i = .int .i64 m ∧ Hid (∀ j, j < m → cf u k j ≤ cf t k j) ∧ Drew w5 wr) (fun i _ => (at1 t.r k).length - (intOf i).toNat)
              case atStart => exact ⟨0, Nat.zero_le _, rfl, hid_none, hdr⟩
              case round =>
                clear r0 r1 hck hcu
                obtain ⟨m, hm, rfl, hb, hdm⟩ := hrel
                have r0 := (hdm.cell _).trans q2
                have r1 := (hdm.cell _).trans u2
                have hck := (hdm.cell _).trans HCT.out
                have hcu := (hdm.cell _).trans HCU.out
                by_cases hmt : m < (at1 t.r k).length
                · have hmu : m < (at1 u.r k).length := by have := LT.out; have := LU.out; have := EL.out; omega
                  obtain ⟨b4, o4, rfl, _, hc4⟩ := (hdm.ints hikt).at_ hmt
                  have g4 : wr.cell? ⟨b4, o4 + m, none⟩ = some (.int .i64 (cf t k m)) := hc4 m hmt
                  clear hc4
                  obtain ⟨b5, o5, hA5, _, hc5⟩ := (hdm.ints hiku).at_ hmu
                  have g5 : wr.cell? ⟨b5, o5 + m, none⟩ = some (.int .i64 (cf u k m)) := hc5 m hmu
                  clear hc5
                  subst hA5
                  by_cases hg : cf u k m ≤ cf t k m
                  · have HG := Lib.hid hg
                    go_wp2_with fail
                    go_quiet (fail)
                    go_wp2
                    exact ⟨⟨m + 1, by omega, by go_num, hid_more hb HG.out, hdm.drewN nq⟩, by simp [intOf]; omega⟩
                  · have HG := Lib.hid hg
                    go_wp2_with fail
                    go_quiet (fail)
                    go_wp2
                    go_ret2
                    exact ⟨false, 0, bet_no HT.out HU.out fun hh => absurd (hh.2.2 k hlt m (by have := LT.out; omega)) (by have := HG.out; omega), rfl, hal.trans ((hdm.drewN nq).below _)⟩
                · go_wp2
                  exact ⟨⟨k + 1, by omega, by go_num, hid_more ha fun j hj => hb.out j (by have := LT.out; omega), hdm⟩, by simp [intOf]; omega⟩
            · go_wp2
              go_ret2
              exact ⟨true, 0, ⟨fun hh => absurd ⟨HT.out, HU.out⟩ hh, fun _ => ⟨⟨fun _ => ⟨HO.out, HE.out, fun j hj => ha.out j (by omega)⟩, fun _ => rfl⟩, rfl⟩⟩, rfl, hal.trans (hdr.below _)⟩
        · have o2 : sameB t.ent u.ent = false := by simp [sameB, he]
          have HE := Lib.hid he
          clear he
          go_wp2
          go_ret2
          exact ⟨false, 0, bet_no ht hu fun hh => HE.out hh.2.1, rfl, hal⟩
      · have o1 : sameB t.obs u.obs = false := by simp [sameB, ho]
        have HO := Lib.hid ho
        clear ho
        go_wp2
        go_ret2
        exact ⟨false, 0, bet_no ht hu fun hh => HO.out hh.1, rfl, hal⟩
    · have e2 := tabB_f hu
      go_wp2_with fail
      refine (lValidTable _ _ _ _ _ _ B _ _ hU.tab (by have := hU.lt; have := hU.sz; omega) hn').mono ?_
      rintro x w3 ⟨rfl, hb⟩
      go_wp2
      go_ret2
      exact ⟨false, 30, bet_err fun hh => hu hh.2, rfl, hal.trans (hb.mono hal.size)⟩
  · have e1 := tabB_f ht
    go_enter Try.func41, Try.ntmps41
    go_wp2_with fail
    rw [HW.out, HW1.out]
    refine (lValidTable _ _ _ _ _ _ B _ _ hT.tab (by have := hT.lt; have := hT.sz; omega) hn).mono ?_
    rintro x w2 ⟨rfl, hb⟩
    go_wp2
    go_ret2
    exact ⟨false, 30, bet_err fun hh => ht hh.1, rfl, hal.trans (hb.mono hal.size)⟩
end Go.Proofs.Ytihhfelhdgmceaa
