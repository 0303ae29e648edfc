/- TopEdicts: Propose. -/
import Derived.Test.YtdmmcdbojmalfaaGreatEdZ
import Derived.Test.YtdmmcdbojmalfaaGreatEach
namespace Go.Proofs.YtdmmcdbojmalfaaGreat
open Go.RowKit
/-- What holds at distance k by the edicts. -/
def wvF (topic dir hour : Int) (S : List Edc) (L : Nat) (k : Nat) : Int := strF topic dir hour S (metN L dir k)
/-- The signs for one direction and topic, behind n others. -/
def prF (topic dir hour : Int) (S : List Edc) (L : Nat) (J : List Int) (n : Nat) : List Sgn := psg topic dir hour L (wvF topic dir hour S L) n (pts (wvF topic dir hour S L) (jnP L dir J) L)
def pq1 (hour : Int) (S : List Edc) (L : Nat) (J : List Int) : List Sgn := prF 1 1 hour S L J 0
def pq2 (hour : Int) (S : List Edc) (L : Nat) (J : List Int) : List Sgn := pq1 hour S L J ++ prF 1 (-1) hour S L J (pq1 hour S L J).length
def pq3 (hour : Int) (S : List Edc) (L : Nat) (J : List Int) : List Sgn := pq2 hour S L J ++ prF 2 1 hour S L J (pq2 hour S L J).length
def pq4 (hour : Int) (S : List Edc) (L : Nat) (J : List Int) : List Sgn := pq3 hour S L J ++ prF 2 (-1) hour S L J (pq3 hour S L J).length
def prK (hour : Int) (S : List Edc) (L : Nat) (J : List Int) : Nat → List Sgn
  | 0 => []
  | 1 => pq1 hour S L J
  | 2 => pq2 hour S L J
  | 3 => pq3 hour S L J
  | _ => pq4 hour S L J
theorem prF_length (topic dir hour : Int) (S : List Edc) (L : Nat) (J : List Int) (n : Nat) : (prF topic dir hour S L J n).length ≤ L := by
  unfold prF
  rw [psg_length]
  exact pts_length _ _ _
theorem pr1_len (hour : Int) (S : List Edc) (L : Nat) (J : List Int) : (pq1 hour S L J).length ≤ L := prF_length ..
theorem pr2_len (hour : Int) (S : List Edc) (L : Nat) (J : List Int) : (pq2 hour S L J).length ≤ 2 * L := by
  unfold pq2; rw [List.length_append]; have := pr1_len hour S L J; have := prF_length 1 (-1) hour S L J (pq1 hour S L J).length; omega
theorem pr3_len (hour : Int) (S : List Edc) (L : Nat) (J : List Int) : (pq3 hour S L J).length ≤ 3 * L := by
  unfold pq3; rw [List.length_append]; have := pr2_len hour S L J; have := prF_length 2 1 hour S L J (pq2 hour S L J).length; omega
theorem pr4_len (hour : Int) (S : List Edc) (L : Nat) (J : List Int) : (pq4 hour S L J).length ≤ 4 * L := by
  unfold pq4; rw [List.length_append]; have := pr3_len hour S L J; have := prF_length 2 (-1) hour S L J (pq3 hour S L J).length; omega
def PropRes (hour : Int) (S : List Edc) (L : Nat) (J : List Int) (w : World) (e : Ending) (w' : World) : Prop :=
  ∃ (A : Option Addr) (c : Nat), e = .returned (.tuple #[.slice A (pq4 hour S L J).length c, .int .i64 0]) ∧ RowsK w' w'.heap.size A 9 encG (pq4 hour S L J) ∧ Below w.heap.size w w'
set_option maxRecDepth 100000 in
set_option maxHeartbeats 8000000 in
theorem lPropose (AJ A : Option Addr) (cJ c B L : Nat) (J : List Int) (es S : List Edc) (hour : Int) (w : World) (hJ : Ints w B AJ J) (h : RowsK w B A 8 encE es) (hB : B ≤ w.heap.size)
    (hv : VEds L J es) (hve : ∀ x ∈ es, SmE x ∧ 0 ≤ x.fr ∧ x.til ≤ L) (hS : S.Perm es) (hSa : AscN S) (hh : inB 0 hour 10000000 = true) (hcap : (pq4 hour S L J).length ≤ 100) :
    Calls Tryz.prog 12 #[.agg #[.int .i64 L, .slice AJ J.length cJ], .slice A es.length c, .int .i64 hour] w (PropRes hour S L J w) := by
  have hL : 1 ≤ L ∧ L ≤ 100000 := by have := hv.1.1; omega
  have hn : es.length ≤ 50 := hv.2.1
  have hjn : J.length ≤ 50 := hv.1.2.1
  unfold PropRes
  obtain ⟨W, hW⟩ : ∃ W, w.heap.size = W := ⟨_, rfl⟩
  have hb3 : Below W w (((w.alloc (.cells #[.int .i64 L, .slice AJ J.length cJ] 32)).alloc (.cells #[.slice A es.length c] 26)).alloc (.cells #[.int .i64 hour] 3)) := (((Below.refl _ _).alloc (by omega) _).alloc (by simp; omega) _).alloc (by simp; omega) _
  have hx3 : LnBox (((w.alloc (.cells #[.int .i64 L, .slice AJ J.length cJ] 32)).alloc (.cells #[.slice A es.length c] 26)).alloc (.cells #[.int .i64 hour] 3)) W L AJ J.length cJ := by
    rw [← hW]; constructor <;> simp [go_sem]
  have hE3 : (((w.alloc (.cells #[.int .i64 L, .slice AJ J.length cJ] 32)).alloc (.cells #[.slice A es.length c] 26)).alloc (.cells #[.int .i64 hour] 3)).cell? ⟨W + 1, 0, none⟩ = some (.slice A es.length c) := by
    rw [← hW]; simp [go_sem]
  have hH3 : (((w.alloc (.cells #[.int .i64 L, .slice AJ J.length cJ] 32)).alloc (.cells #[.slice A es.length c] 26)).alloc (.cells #[.int .i64 hour] 3)).cell? ⟨W + 1 + 1, 0, none⟩ = some (.int .i64 hour) := by
    rw [← hW]; simp [go_sem]
  have hsz3 : (((w.alloc (.cells #[.int .i64 L, .slice AJ J.length cJ] 32)).alloc (.cells #[.slice A es.length c] 26)).alloc (.cells #[.int .i64 hour] 3)).heap.size = W + 3 := by simp [hW]
  have hJ3 := (hJ.more (by omega : B ≤ W)).below hb3
  have he3 := (h.more (by omega : B ≤ W)).below hb3
  have HV := Lib.hid hv
  have HVE := Lib.hid hve
  have HS := Lib.hid hS
  have HSA := Lib.hid hSa
  have HB3 := Lib.hid hb3
  clear hJ h hB hv hve hS hSa hb3
  go_enter Tryz.func12, Tryz.ntmps12
  go_upto_region 1 with fail
  generalize ((w.alloc (.cells #[.int .i64 L, .slice AJ J.length cJ] 32)).alloc (.cells #[.slice A es.length c] 26)).alloc (.cells #[.int .i64 hour] 3) = w3 at *
  obtain ⟨q0, q1, hz⟩ := id hx3
  have hz1 : W + 1 < w3.heap.size := by omega
  have hz2 : W + 1 + 1 < w3.heap.size := by omega
  have hal := lall AJ A none cJ c 0 W L J es w3 hour [] hJ3 rows_nil he3 (by omega) HV.out vsgs_nil hh
  go_wp2_with fail
  refine hal.mono ?_
  rintro e w4 ⟨rfl, hb4⟩
  have hx4 := hx3.below hb4
  have hE4 := (hb4.cell (p := ⟨W + 1, 0, none⟩) hz1).trans hE3
  have hH4 := (hb4.cell (p := ⟨W + 1 + 1, 0, none⟩) hz2).trans hH3
  have hJ4 := hJ3.below (hb4.mono (by omega))
  have he4 := he3.below (hb4.mono (by omega))
  have HB4 := Lib.hid (HB3.out.trans (hb4.mono (by omega)))
  have hsz4 := hb4.size
  clear hal hb4 hx3 hE3 hH3 hJ3 he3 q0 q1 hz hz1 hz2
  go_upto_region 5 with fail
  have hb5 : Below w4.heap.size w4 (w4.alloc (.cells #[.slice none 0 0] 42)) := (Below.refl _ _).alloc (Nat.le_refl _) _
  have hx5 := hx4.below hb5
  have hE5 := (hb5.cell (p := ⟨W + 1, 0, none⟩) (by simp only; omega)).trans hE4
  have hH5 := (hb5.cell (p := ⟨W + 1 + 1, 0, none⟩) (by simp only; omega)).trans hH4
  have hJ5 := hJ4.below (hb5.mono (by omega))
  have he5 := he4.below (hb5.mono (by omega))
  have hP5 : PrAt (w4.alloc (.cells #[.slice none 0 0] 42)) (w4.alloc (.cells #[.slice none 0 0] 42)) w4.heap.size (.slice none 0 0) (prK hour S L J 0) := ⟨by simp [go_sem], by simp [go_sem], World.ownsRow_nil _ _ _ _, Below.refl _ _, by simp⟩
  have HB5 := Lib.hid (HB4.out.trans (hb5.mono (by omega)))
  have hOW : W + 3 ≤ w4.heap.size := by omega
  clear hb5 hx4 hE4 hH4 hJ4 he4
  generalize w4.alloc (.cells #[.slice none 0 0] 42) = w5 at *
  generalize w4.heap.size = O at *
  have hh2 := inB_iff.1 hh
  have hst : ∀ (t d : Int) (k : Nat) (w : World), (t = 1 ∧ d = 1 ∧ k = 0) ∨ (t = 1 ∧ d = -1 ∧ k = 1) ∨ (t = 2 ∧ d = 1 ∧ k = 2) ∨ (t = 2 ∧ d = -1 ∧ k = 3) → (∃ v, PrAt w5 w O v (prK hour S L J k)) → Calls Tryz.prog 27 #[.int .i64 t, .int .i64 d, .pointer (some ⟨W, 0, none⟩), .pointer (some ⟨W + 1, 0, none⟩), .pointer (some ⟨W + 1 + 1, 0, none⟩), .pointer (some ⟨O, 0, none⟩)] w fun e w' => e = .returned (.tuple #[]) ∧ ∃ v, PrAt w5 w' O v (prK hour S L J (k + 1)) := by
    have l1 := pr1_len hour S L J
    have l2 := pr2_len hour S L J
    have l3 := pr3_len hour S L J
    intro t d k wz hk hv
    obtain ⟨v, hp⟩ := hv
    have ht : t = 1 ∨ t = 2 := by rcases hk with h | h | h | h <;> simp [h.1]
    have hkl : (prK hour S L J k).length ≤ 400000 := by
      rcases hk with h | h | h | h <;> obtain ⟨-, -, rfl⟩ := h <;> simp only [prK, List.length_nil] <;> omega
    refine (lProp1 t d hp hx5 hE5 hH5 (by omega) (by omega) (by omega) hJ5 he5 (by omega) hL HVE.out hn HS.out HSA.out hjn ht hh2 hkl).mono ?_
    rintro e w' ⟨he, v', hp'⟩
    refine ⟨he, v', ?_⟩
    rcases hk with h | h | h | h <;> obtain ⟨rfl, rfl, rfl⟩ := h <;> exact hp'
  have hea := lEachP (.pointer (some ⟨W, 0, none⟩)) (.pointer (some ⟨W + 1, 0, none⟩)) (.pointer (some ⟨W + 1 + 1, 0, none⟩)) (.pointer (some ⟨O, 0, none⟩)) (fun k w => ∃ v, PrAt w5 w O v (prK hour S L J k)) w5 ⟨_, hP5⟩ hst
  clear hst hP5 hx5 hE5 hH5 hJ5 he5
  go_wp2_with fail
  refine hea.mono ?_
  rintro e w6 ⟨rfl, v6, hP6⟩
  clear hea
  have hP6' : PrAt w5 w6 O v6 (pq4 hour S L J) := hP6
  obtain ⟨hl6, A6, c6, rfl, hR6⟩ := own_rows encG_len hP6'.own (by decide)
  have qO := hP6'.co
  have HBF := Lib.hid (HB5.out.trans (hP6'.below.mono (by omega)))
  have HR := Lib.hid hR6
  have hc : ¬ (100 : Int) < ((pq4 hour S L J).length : Int) := by omega
  clear hP6 hP6' hR6 hl6
  go_wp2_with fail
  go_ret2
  exact ⟨A6, c6, rfl, HR.out, by rw [hW]; exact HBF.out⟩
end Go.Proofs.YtdmmcdbojmalfaaGreat
