/- The contract of light.ValidTable. -/
import Derived.Test.YtihhfelhdgmceaaSlopes
namespace Go.Proofs.Ytihhfelhdgmceaa
open Go.RowKit
/-- The table in the world behind a new block. -/
theorem Tab.box {w : World} {B : Nat} {A0 A1 A2 : Option Addr} {t : Tb} (h : Tab w B A0 A1 A2 t) (hB : B ≤ w.heap.size) (o : Obj) : Tab (w.alloc o) B A0 A1 A2 t :=
  h.keep fun p hp => World.cell?_alloc_lt w o p (by omega)
theorem hid_more {p : Nat → Prop} {k : Nat} (h : Hid (∀ j, j < k → p j)) (hk : p k) : Hid (∀ j, j < k + 1 → p j) := fun j hj => by
  by_cases e : j = k
  · rw [e]; exact hk
  · exact h.out j (by omega)
theorem hid_none {p : Nat → Prop} : Hid (∀ j, j < 0 → p j) := fun j hj => absurd hj (by omega)
theorem Drew.tab {w w' : World} {B : Nat} {A0 A1 A2 : Option Addr} {t : Tb} (h : Drew w w') (ht : Tab w B A0 A1 A2 t) : Tab w' B A0 A1 A2 t := ht.keep fun p _ => h.cell p

theorem box3 (w : World) (a b c : Value) (T : TypeId) : (w.alloc (.cells #[a, b, c] T)).cell? ⟨w.heap.size, 0, none⟩ = some a ∧ (w.alloc (.cells #[a, b, c] T)).cell? ⟨w.heap.size, 1, none⟩ = some b ∧
    (w.alloc (.cells #[a, b, c] T)).cell? ⟨w.heap.size, 2, none⟩ = some c := by
  refine ⟨?_, ?_, ?_⟩ <;> simp [go_sem]
theorem lValidTable (A0 A1 A2 : Option Addr) (c0 c1 c2 B : Nat) (t : Tb) (w : World) (h : Tab w B A0 A1 A2 t) (hB : B ≤ w.heap.size) (hn : Small t) :
    Calls Try.prog 26 #[.agg #[.slice A0 t.obs.length c0, .slice A1 t.ent.length c1, .slice A2 t.r.length c2]] w fun e w' => e = .returned (.bool (tabB t)) ∧ Below w.heap.size w w' := by
  obtain ⟨n1, n2, n3, n4⟩ := hn
  have hT := h.box hB (.cells #[.slice A0 t.obs.length c0, .slice A1 t.ent.length c1, .slice A2 t.r.length c2] 25)
  have HN := Lib.hid n4
  clear h n4
  by_cases hso : Slopes t.obs
  · by_cases hse : Slopes t.ent
    · by_cases hl : t.r.length = t.obs.length
      · have so := slopesB_t hso
        have se := slopesB_t hse
        have HL := Lib.hid hl
        have hlb : ((t.r.length : Int) != (t.obs.length : Int)) = false := by simp [hl]
        clear hl
        go_enter Try.func26, Try.ntmps26
        go_wp2_with (go_at_call 61; refine (by first | exact lslopes _ _ _ _ _ hT.o (by omega) | exact lslopes _ _ _ _ _ hT.e (by omega) : Calls _ _ _ _ fun e w' => _).mono ?_; rintro e w' ⟨rfl, rfl⟩)
        go_loop [29] (fun i => ∃ k : Nat, k ≤ t.r.length ∧ i = .int .i64 k ∧ Hid (∀ j, j < k → rowAt t j)) (fun i => t.r.length - (intOf i).toNat)
        case atStart => exact ⟨0, Nat.zero_le _, rfl, hid_none⟩
        case round =>
          obtain ⟨k, hk, rfl, ha⟩ := hrel
          by_cases hlt : k < t.r.length
          · obtain ⟨b2, o2, rfl, hb2, hrows⟩ := hT.r.form (by omega)
            obtain ⟨Ak, Ck, hck, hik⟩ := hrows k hlt
            have HR := Lib.hid hrows
            clear hrows
            by_cases hll : (at1 t.r k).length = t.ent.length
            · have HLL := Lib.hid hll
              have hlb2 : (((at1 t.r k).length : Int) != (t.ent.length : Int)) = false := by simp [hll]
              clear hll
              go_wp2
              go_loop [42] (fun i => ∃ m : Nat, m ≤ (at1 t.r k).length ∧ i = .int .i64 m ∧ Hid (∀ j, j < m → coefAt t k j)) (fun i => (at1 t.r k).length - (intOf i).toNat)
              case atStart => exact ⟨0, Nat.zero_le _, rfl, hid_none⟩
              case round =>
                obtain ⟨m, hm, rfl, hb⟩ := hrel
                have hkl := HN.out k hlt
                by_cases hmt : m < (at1 t.r k).length
                · obtain ⟨b3, o3, rfl, hb3, hc3⟩ := hik.at_ hmt
                  have hcm : (w.alloc (.cells #[.slice A0 t.obs.length c0, .slice A1 t.ent.length c1, .slice (some ⟨b2, o2, none⟩) t.r.length c2] 25)).cell? ⟨b3, o3 + m, none⟩ = some (.int .i64 (cf t k m)) := hc3 m hmt
                  have HC3 := Lib.hid hc3
                  clear hc3
                  by_cases hin : 0 ≤ cf t k m ∧ cf t k m ≤ 100000
                  · have hi := inB_t hin.1 hin.2
                    obtain ⟨i1, i2⟩ := hin
                    by_cases hm0 : 0 < m
                    · have hcm1 : (w.alloc (.cells #[.slice A0 t.obs.length c0, .slice A1 t.ent.length c1, .slice (some ⟨b2, o2, none⟩) t.r.length c2] 25)).cell? ⟨b3, o3 + (m - 1), none⟩ = some (.int .i64 (cf t k (m - 1))) := HC3.out (m - 1) (by omega)
                      by_cases g1 : cf t k m ≤ cf t k (m - 1)
                      · by_cases hk0 : 0 < k
                        · obtain ⟨Ak1, Ck1, hck1, hik1⟩ := HR.out (k - 1) (by omega)
                          have HL1 := Lib.hid (ha.out (k - 1) (by omega)).1
                          obtain ⟨b4, o4, rfl, hb4, hc4⟩ := hik1.at_ (k := m) (by have := HL1.out; have := HLL.out; omega)
                          have hcm2 : (w.alloc (.cells #[.slice A0 t.obs.length c0, .slice A1 t.ent.length c1, .slice (some ⟨b2, o2, none⟩) t.r.length c2] 25)).cell? ⟨b4, o4 + m, none⟩ = some (.int .i64 (cf t (k - 1) m)) := hc4 m (by have := HL1.out; have := HLL.out; omega)
                          have hmk1 : m < (at1 t.r (k - 1)).length := by have := HL1.out; have := HLL.out; omega
                          clear hc4 hik1
                          by_cases g2 : cf t k m ≤ cf t (k - 1) m
                          · go_wp2_with (go_at_call 58; refine (lwithin _ _ _ _).mono ?_; rintro e w' ⟨rfl, rfl⟩)
                            exact ⟨⟨m + 1, by omega, by go_num, hid_more hb (by unfold coefAt; exact ⟨by omega, by omega, fun h => by omega, fun h => by omega⟩)⟩, by simp [intOf]; omega⟩
                          · go_wp2_with (go_at_call 58; refine (lwithin _ _ _ _).mono ?_; rintro e w' ⟨rfl, rfl⟩)
                            go_ret
                            exact ⟨ret_bool (by rw [tabB_bad hlt fun hr => by have := hr.2 m (by have := HLL.out; omega); unfold coefAt at this; omega]), (Below.refl _ _).alloc (Nat.le_refl _) _⟩
                        · go_wp2_with (go_at_call 58; refine (lwithin _ _ _ _).mono ?_; rintro e w' ⟨rfl, rfl⟩)
                          exact ⟨⟨m + 1, by omega, by go_num, hid_more hb (by unfold coefAt; exact ⟨by omega, by omega, fun h => by omega, fun h => by omega⟩)⟩, by simp [intOf]; omega⟩
                      · go_wp2_with (go_at_call 58; refine (lwithin _ _ _ _).mono ?_; rintro e w' ⟨rfl, rfl⟩)
                        go_ret
                        exact ⟨ret_bool (by rw [tabB_bad hlt fun hr => by have := hr.2 m (by have := HLL.out; omega); unfold coefAt at this; omega]), (Below.refl _ _).alloc (Nat.le_refl _) _⟩
                    · by_cases hk0 : 0 < k
                      · obtain ⟨Ak1, Ck1, hck1, hik1⟩ := HR.out (k - 1) (by omega)
                        have HL1 := Lib.hid (ha.out (k - 1) (by omega)).1
                        obtain ⟨b4, o4, rfl, hb4, hc4⟩ := hik1.at_ (k := m) (by have := HL1.out; have := HLL.out; omega)
                        have hcm2 : (w.alloc (.cells #[.slice A0 t.obs.length c0, .slice A1 t.ent.length c1, .slice (some ⟨b2, o2, none⟩) t.r.length c2] 25)).cell? ⟨b4, o4 + m, none⟩ = some (.int .i64 (cf t (k - 1) m)) := hc4 m (by have := HL1.out; have := HLL.out; omega)
                        have hmk1 : m < (at1 t.r (k - 1)).length := by have := HL1.out; have := HLL.out; omega
                        clear hc4 hik1
                        by_cases g2 : cf t k m ≤ cf t (k - 1) m
                        · go_wp2_with (go_at_call 58; refine (lwithin _ _ _ _).mono ?_; rintro e w' ⟨rfl, rfl⟩)
                          exact ⟨⟨m + 1, by omega, by go_num, hid_more hb (by unfold coefAt; exact ⟨by omega, by omega, fun h => by omega, fun h => by omega⟩)⟩, by simp [intOf]; omega⟩
                        · go_wp2_with (go_at_call 58; refine (lwithin _ _ _ _).mono ?_; rintro e w' ⟨rfl, rfl⟩)
                          go_ret
                          exact ⟨ret_bool (by rw [tabB_bad hlt fun hr => by have := hr.2 m (by have := HLL.out; omega); unfold coefAt at this; omega]), (Below.refl _ _).alloc (Nat.le_refl _) _⟩
                      · go_wp2_with (go_at_call 58; refine (lwithin _ _ _ _).mono ?_; rintro e w' ⟨rfl, rfl⟩)
                        exact ⟨⟨m + 1, by omega, by go_num, hid_more hb (by unfold coefAt; exact ⟨by omega, by omega, fun h => by omega, fun h => by omega⟩)⟩, by simp [intOf]; omega⟩
                  · have hi := inB_f hin
                    go_wp2_with (go_at_call 58; refine (lwithin _ _ _ _).mono ?_; rintro e w' ⟨rfl, rfl⟩)
                    go_ret
                    exact ⟨ret_bool (by rw [tabB_bad hlt fun hr => by have := hr.2 m (by have := HLL.out; omega); unfold coefAt at this; omega]), (Below.refl _ _).alloc (Nat.le_refl _) _⟩
                · go_wp2
                  exact ⟨⟨k + 1, by omega, by go_num, hid_more ha ⟨HLL.out, fun j hj => hb.out j (by have := HLL.out; omega)⟩⟩, by simp [intOf]; omega⟩
            · have hlb2 : (((at1 t.r k).length : Int) != (t.ent.length : Int)) = true := by rw [bne_iff_ne]; omega
              go_wp2
              go_ret
              exact ⟨ret_bool (by rw [tabB_bad hlt fun hr => hll hr.1]), (Below.refl _ _).alloc (Nat.le_refl _) _⟩
          · go_wp2
            go_ret
            exact ⟨ret_bool (by rw [tabB_t ⟨hso, hse, HL.out, fun j hj => ha.out j (by omega)⟩]), (Below.refl _ _).alloc (Nat.le_refl _) _⟩
      · have so := slopesB_t hso
        have se := slopesB_t hse
        have HF := Lib.hid (tabB_f fun h => hl h.2.2.1 : tabB t = false)
        have hlb : ((t.r.length : Int) != (t.obs.length : Int)) = true := by rw [bne_iff_ne]; omega
        go_enter Try.func26, Try.ntmps26
        go_wp2_with (go_at_call 61; refine (by first | exact lslopes _ _ _ _ _ hT.o (by omega) | exact lslopes _ _ _ _ _ hT.e (by omega) : Calls _ _ _ _ fun e w' => _).mono ?_; rintro e w' ⟨rfl, rfl⟩)
        go_ret
        exact ⟨ret_bool (by rw [HF.out]), (Below.refl _ _).alloc (Nat.le_refl _) _⟩
    · have so := slopesB_t hso
      have se := slopesB_f hse
      have HF := Lib.hid (tabB_f fun h => hse h.2.1 : tabB t = false)
      go_enter Try.func26, Try.ntmps26
      go_wp2_with (go_at_call 61; refine (by first | exact lslopes _ _ _ _ _ hT.o (by omega) | exact lslopes _ _ _ _ _ hT.e (by omega) : Calls _ _ _ _ fun e w' => _).mono ?_; rintro e w' ⟨rfl, rfl⟩)
      go_ret
      exact ⟨ret_bool (by rw [HF.out]), (Below.refl _ _).alloc (Nat.le_refl _) _⟩
  · have so := slopesB_f hso
    have HF := Lib.hid (tabB_f fun h => hso h.1 : tabB t = false)
    go_enter Try.func26, Try.ntmps26
    go_wp2_with (go_at_call 61; refine (by first | exact lslopes _ _ _ _ _ hT.o (by omega) | exact lslopes _ _ _ _ _ hT.e (by omega) : Calls _ _ _ _ fun e w' => _).mono ?_; rintro e w' ⟨rfl, rfl⟩)
    go_ret
    exact ⟨ret_bool (by rw [HF.out]), (Below.refl _ _).alloc (Nat.le_refl _) _⟩
end Go.Proofs.Ytihhfelhdgmceaa
