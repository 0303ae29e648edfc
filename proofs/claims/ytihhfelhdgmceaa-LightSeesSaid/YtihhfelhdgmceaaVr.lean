/- The contract of the reference's ValidTable. -/
import Derived.Test.YtihhfelhdgmceaaVt
namespace Go.Proofs.Ytihhfelhdgmceaa
open Go.RowKit
set_option maxRecDepth 100000 in
set_option maxHeartbeats 2000000 in
theorem rValidTable (A0 A1 A2 : Option Addr) (c0 c1 c2 B : Nat) (t : Tb) (w : World) (h : Tab w B A0 A1 A2 t) (hB : B ≤ w.heap.size) (hn : Small t) :
    Calls Try.prog 22 #[.agg #[.slice A0 t.obs.length c0, .slice A1 t.ent.length c1, .slice A2 t.r.length c2]] w fun e w' => e = .returned (.bool (tabB t)) ∧ Below w.heap.size w w' := by
  obtain ⟨n1, n2, n3, n4⟩ := hn
  have hT := h.box hB (.cells #[.slice A0 t.obs.length c0, .slice A1 t.ent.length c1, .slice A2 t.r.length c2] 25)
  obtain ⟨q0, q1, q2⟩ := box3 w (.slice A0 t.obs.length c0) (.slice A1 t.ent.length c1) (.slice A2 t.r.length c2) 25
  have HN := Lib.hid n4
  have hal : Below w.heap.size w (w.alloc (.cells #[.slice A0 t.obs.length c0, .slice A1 t.ent.length c1, .slice A2 t.r.length c2] 25)) := (Below.refl _ _).alloc (Nat.le_refl _) _
  clear h n4
  by_cases hso : Slopes t.obs
  · have so := slopesB_t hso
    go_enter Try.func22, Try.ntmps22
    go_wp2_with fail
    refine (rslopes _ _ _ _ _ hT.o (by omega)).mono ?_
    rintro e w1 ⟨rfl, hd1⟩
    replace hT := hd1.tab hT
    replace q0 := (hd1.cell _).trans q0
    replace q1 := (hd1.cell _).trans q1
    replace q2 := (hd1.cell _).trans q2
    replace hal := hal.trans (hd1.below _)
    clear hd1
    by_cases hse : Slopes t.ent
    · have se := slopesB_t hse
      go_wp2_with fail
      refine (rslopes _ _ _ _ _ hT.e (by omega)).mono ?_
      rintro e w2 ⟨rfl, hd1⟩
      replace hT := hd1.tab hT
      replace q0 := (hd1.cell _).trans q0
      replace q1 := (hd1.cell _).trans q1
      replace q2 := (hd1.cell _).trans q2
      replace hal := hal.trans (hd1.below _)
      clear hd1
      by_cases hl : t.r.length = t.obs.length
      · have HL := Lib.hid hl
        have hlb : ((t.r.length : Int) != (t.obs.length : Int)) = false := by simp [hl]
        have hfin : ∀ wx, Drew w2 wx → Below w.heap.size w wx := fun wx hx => hal.trans (hx.below _)
        clear hl
        obtain ⟨b2, o2, rfl, hb2, hrows⟩ := hT.r.form (by have := hso.1; have := HL.out; omega)
        have HR := Lib.hid hrows
        clear hrows
        go_wp2
        go_loopw [3] (fun i wr => ∃ k : Nat, k ≤ t.r.length ∧ i = .int .i64 k ∧ Hid (∀ j, j < k → rowAt t j) ∧ Drew w2 wr) (fun i _ => t.r.length - (intOf i).toNat)
        case atStart => exact ⟨0, Nat.zero_le _, rfl, hid_none, Drew.refl _⟩
        case round =>
          obtain ⟨k, hk, rfl, ha, hdr⟩ := hrel
          have r0 := (hdr.cell _).trans q0
          have r1 := (hdr.cell _).trans q1
          have r2 := (hdr.cell _).trans q2
          by_cases hlt : k < t.r.length
          · obtain ⟨Ak, Ck, hck2, hik2⟩ := HR.out k hlt
            have hck := (hdr.cell _).trans hck2
            have HCK := Lib.hid hck2
            clear hck2
            by_cases hll : (at1 t.r k).length = t.ent.length
            · have HLL := Lib.hid hll
              have hlb2 : (((at1 t.r k).length : Int) != (t.ent.length : Int)) = false := by simp [hll]
              have hkl := HN.out k hlt
              clear hll
              go_wp2_with fail
              go_quiet (fail)
              go_wp2
              obtain ⟨wo, hwo⟩ : ∃ wo, wo = wr.drewN nq := ⟨_, rfl⟩
              rw [← hwo]
              have hdo : Drew w2 wo := hwo ▸ hdr.drewN nq
              clear hwo
              go_loopw [4] (fun i wm => ∃ m : Nat, m ≤ t.ent.length ∧ i = .int .i64 m ∧ Hid (∀ j, j < m → coefAt t k j) ∧ Drew w2 wm) (fun i _ => t.ent.length - (intOf i).toNat)
              case atStart => exact ⟨0, Nat.zero_le _, rfl, hid_none, hdo⟩
              case round =>
                obtain ⟨m, hm, rfl, hb, hdm⟩ := hrel
                have s0 := (hdm.cell _).trans q0
                have s1 := (hdm.cell _).trans q1
                have s2 := (hdm.cell _).trans q2
                have hckm := (hdm.cell _).trans HCK.out
                by_cases hmt : m < t.ent.length
                · obtain ⟨b3, o3, rfl, hb3, hc3⟩ := (hdm.ints hik2).at_ (k := m) (by have := HLL.out; omega)
                  have hmk : m < (at1 t.r k).length := by have := HLL.out; omega
                  have hcm : wr.cell? ⟨b3, o3 + m, none⟩ = some (.int .i64 (cf t k m)) := hc3 m hmk
                  have HC3 := Lib.hid hc3
                  clear hc3
                  by_cases hin : 0 ≤ cf t k m ∧ cf t k m ≤ 100000
                  · have hi := inB_t hin.1 hin.2
                    obtain ⟨i1, i2⟩ := hin
                    by_cases hm0 : 0 < m
                    · have hcm1 : wr.cell? ⟨b3, o3 + (m - 1), none⟩ = some (.int .i64 (cf t k (m - 1))) := HC3.out (m - 1) (by omega)
                      by_cases g1 : cf t k m ≤ cf t k (m - 1)
                      · by_cases hk0 : 0 < k
                        · obtain ⟨Ak1, Ck1, hck1, hik1⟩ := HR.out (k - 1) (by omega)
                          have hckm1 := (hdm.cell _).trans hck1
                          have HL1 := Lib.hid (ha.out (k - 1) (by omega)).1
                          obtain ⟨b4, o4, rfl, hb4, hc4⟩ := (hdm.ints hik1).at_ (k := m) (by have := HL1.out; omega)
                          have hcm2 : wr.cell? ⟨b4, o4 + m, none⟩ = some (.int .i64 (cf t (k - 1) m)) := hc4 m (by have := HL1.out; omega)
                          have hmk1 : m < (at1 t.r (k - 1)).length := by have := HL1.out; omega
                          clear hc4 hik1 hck1
                          by_cases g2 : cf t k m ≤ cf t (k - 1) m
                          · go_wp2_with (go_at_call 56; refine (rwithin _ _ _ _).mono ?_; rintro e w' ⟨rfl, rfl⟩)
                            exact ⟨⟨m + 1, by omega, by go_num, hid_more hb (by unfold coefAt; exact ⟨by omega, by omega, fun h => by omega, fun h => by omega⟩), hdm⟩, by simp [intOf]; omega⟩
                          · go_wp2_with (go_at_call 56; refine (rwithin _ _ _ _).mono ?_; rintro e w' ⟨rfl, rfl⟩)
                            go_ret
                            exact ⟨ret_bool (by rw [tabB_bad hlt fun hr => by have := hr.2 m (by have := HLL.out; omega); unfold coefAt at this; omega]), hfin _ hdm⟩
                        · go_wp2_with (go_at_call 56; refine (rwithin _ _ _ _).mono ?_; rintro e w' ⟨rfl, rfl⟩)
                          exact ⟨⟨m + 1, by omega, by go_num, hid_more hb (by unfold coefAt; exact ⟨by omega, by omega, fun h => by omega, fun h => by omega⟩), hdm⟩, by simp [intOf]; omega⟩
                      · go_wp2_with (go_at_call 56; refine (rwithin _ _ _ _).mono ?_; rintro e w' ⟨rfl, rfl⟩)
                        go_ret
                        exact ⟨ret_bool (by rw [tabB_bad hlt fun hr => by have := hr.2 m (by have := HLL.out; omega); unfold coefAt at this; omega]), hfin _ hdm⟩
                    · by_cases hk0 : 0 < k
                      · obtain ⟨Ak1, Ck1, hck1, hik1⟩ := HR.out (k - 1) (by omega)
                        have hckm1 := (hdm.cell _).trans hck1
                        have HL1 := Lib.hid (ha.out (k - 1) (by omega)).1
                        obtain ⟨b4, o4, rfl, hb4, hc4⟩ := (hdm.ints hik1).at_ (k := m) (by have := HL1.out; omega)
                        have hcm2 : wr.cell? ⟨b4, o4 + m, none⟩ = some (.int .i64 (cf t (k - 1) m)) := hc4 m (by have := HL1.out; omega)
                        have hmk1 : m < (at1 t.r (k - 1)).length := by have := HL1.out; omega
                        clear hc4 hik1 hck1
                        by_cases g2 : cf t k m ≤ cf t (k - 1) m
                        · go_wp2_with (go_at_call 56; refine (rwithin _ _ _ _).mono ?_; rintro e w' ⟨rfl, rfl⟩)
                          exact ⟨⟨m + 1, by omega, by go_num, hid_more hb (by unfold coefAt; exact ⟨by omega, by omega, fun h => by omega, fun h => by omega⟩), hdm⟩, by simp [intOf]; omega⟩
                        · go_wp2_with (go_at_call 56; refine (rwithin _ _ _ _).mono ?_; rintro e w' ⟨rfl, rfl⟩)
                          go_ret
                          exact ⟨ret_bool (by rw [tabB_bad hlt fun hr => by have := hr.2 m (by have := HLL.out; omega); unfold coefAt at this; omega]), hfin _ hdm⟩
                      · go_wp2_with (go_at_call 56; refine (rwithin _ _ _ _).mono ?_; rintro e w' ⟨rfl, rfl⟩)
                        exact ⟨⟨m + 1, by omega, by go_num, hid_more hb (by unfold coefAt; exact ⟨by omega, by omega, fun h => by omega, fun h => by omega⟩), hdm⟩, by simp [intOf]; omega⟩
                  · have hi := inB_f hin
                    go_wp2_with (go_at_call 56; refine (rwithin _ _ _ _).mono ?_; rintro e w' ⟨rfl, rfl⟩)
                    go_ret
                    exact ⟨ret_bool (by rw [tabB_bad hlt fun hr => by have := hr.2 m (by have := HLL.out; omega); unfold coefAt at this; omega]), hfin _ hdm⟩
                · go_wp2
                  exact ⟨⟨k + 1, by omega, by go_num, hid_more ha ⟨HLL.out, fun j hj => hb.out j (by omega)⟩, hdm⟩, by simp [intOf]; omega⟩
            · have hlb2 : (((at1 t.r k).length : Int) != (t.ent.length : Int)) = true := by rw [bne_iff_ne]; omega
              go_wp2_with fail
              go_quiet (fail)
              go_wp2
              go_ret
              exact ⟨ret_bool (by rw [tabB_bad hlt fun hr => hll hr.1]), hfin _ (hdr.drewN nq)⟩
          · go_wp2
            go_ret
            exact ⟨ret_bool (by rw [tabB_t ⟨hso, hse, HL.out, fun j hj => ha.out j (by omega)⟩]), hfin _ hdr⟩
      · have HF := Lib.hid (tabB_f fun h => hl h.2.2.1 : tabB t = false)
        have hlb : ((t.r.length : Int) != (t.obs.length : Int)) = true := by rw [bne_iff_ne]; omega
        go_wp2
        go_ret
        exact ⟨ret_bool (by rw [HF.out]), hal⟩
    · have se := slopesB_f hse
      have HF := Lib.hid (tabB_f fun h => hse h.2.1 : tabB t = false)
      go_wp2_with fail
      refine (rslopes _ _ _ _ _ hT.e (by omega)).mono ?_
      rintro e w2 ⟨rfl, hd1⟩
      go_wp2
      go_ret
      exact ⟨ret_bool (by rw [HF.out]), hal.trans (hd1.below _)⟩
  · have so := slopesB_f hso
    have HF := Lib.hid (tabB_f fun h => hso h.1 : tabB t = false)
    go_enter Try.func22, Try.ntmps22
    go_wp2_with fail
    refine (rslopes _ _ _ _ _ hT.o (by omega)).mono ?_
    rintro e w1 ⟨rfl, hd1⟩
    go_wp2
    go_ret
    exact ⟨ret_bool (by rw [HF.out]), hal.trans (hd1.below _)⟩
end Go.Proofs.Ytihhfelhdgmceaa
