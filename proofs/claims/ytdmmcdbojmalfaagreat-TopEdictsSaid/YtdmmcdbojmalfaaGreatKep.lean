/- Contract of kept (57): a stretch carried through steps. -/
import Derived.Test.YtdmmcdbojmalfaaGreatNrm
import Derived.Test.YtdmmcdbojmalfaaGreatCry
namespace Go.Proofs.YtdmmcdbojmalfaaGreat
open Go.RowKit
/-- The metres of a list. -/
def met : List (Int × Int) → Int
  | [] => 0
  | p :: ps => (p.2 - p.1) + met ps
theorem met_append : ∀ a b, met (a ++ b) = met a + met b
  | [], b => by simp [met]
  | p :: ps, b => by simp only [List.cons_append, met, met_append ps b]; omega
theorem met_ge : ∀ {l : List (Int × Int)}, Full l → (l.length : Int) ≤ met l
  | [], _ => by simp [met]
  | p :: ps, h => by
    have h1 := h p (List.mem_cons_self ..)
    have h2 := met_ge (l := ps) fun q hq => h q (List.mem_cons_of_mem _ hq)
    simp only [met, List.length_cons]
    omega
theorem met_take : ∀ (l : List (Int × Int)) (k : Nat), k < l.length → met (l.take (k + 1)) = met (l.take k) + ((atp l k).2 - (atp l k).1)
  | [], k, h => by simp at h
  | p :: ps, 0, _ => by simp [met, atp]
  | p :: ps, k + 1, h => by
    have := met_take ps k (by simpa using h)
    simp only [List.take_succ_cons, met, this]
    simp [atp]
    omega
def MvOk (m : Mov) : Prop := (0 ≤ m.a ∧ m.a ≤ m.b ∧ m.b ≤ 20000000) ∧ (-10000000 ≤ m.grow ∧ m.grow ≤ 10000000)
theorem MvOk.sm {m : Mov} (h : MvOk m) : SmM m := by
  obtain ⟨⟨a, b, c⟩, d, e⟩ := h
  exact ⟨⟨by omega, by omega⟩, ⟨by omega, by omega⟩, by omega, by omega⟩
/-- Both ends lie within K. -/
def InK (K : Int) (l : List (Int × Int)) : Prop := ∀ p ∈ l, (-K ≤ p.1 ∧ p.1 ≤ K) ∧ (-K ≤ p.2 ∧ p.2 ≤ K)
theorem pt_two (m : Mov) (s : Int × Int) : ptTo m s 2 = (if s.1 < min s.2 m.a then [(s.1, min s.2 m.a)] else []) ++ (if max s.1 m.b + m.grow < s.2 + m.grow then [(max s.1 m.b + m.grow, s.2 + m.grow)] else []) := by
  simp only [ptTo, partOf]
  by_cases h1 : s.1 < min s.2 m.a <;> by_cases h2 : max s.1 m.b + m.grow < s.2 + m.grow <;> simp [h1, h2]
theorem pt_inv {m : Mov} {s : Int × Int} {K : Int} (hm : MvOk m) (hs : s.1 < s.2) (hK : (-K ≤ s.1 ∧ s.1 ≤ K) ∧ (-K ≤ s.2 ∧ s.2 ≤ K)) :
    Full (ptTo m s 2) ∧ InK (K + 10000000) (ptTo m s 2) ∧ met (ptTo m s 2) ≤ s.2 - s.1 := by
  obtain ⟨⟨a, b, c⟩, d, e⟩ := hm
  rw [pt_two]
  by_cases h1 : s.1 < min s.2 m.a <;> by_cases h2 : max s.1 m.b + m.grow < s.2 + m.grow
  · rw [if_pos h1, if_pos h2]
    refine ⟨fun p hp => ?_, fun p hp => ?_, by simp only [List.cons_append, List.nil_append, met]; omega⟩
    · simp at hp; rcases hp with rfl | rfl
      · exact h1
      · exact h2
    · simp at hp; rcases hp with rfl | rfl
      · simp only; omega
      · simp only; omega
  · rw [if_pos h1, if_neg h2]
    refine ⟨fun p hp => ?_, fun p hp => ?_, by simp only [List.append_nil, met]; omega⟩
    · simp at hp; subst hp; exact h1
    · simp at hp; subst hp; simp only; omega
  · rw [if_neg h1, if_pos h2]
    refine ⟨fun p hp => ?_, fun p hp => ?_, by simp only [List.nil_append, met]; omega⟩
    · simp at hp; subst hp; exact h2
    · simp at hp; subst hp; simp only; omega
  · rw [if_neg h1, if_neg h2]
    exact ⟨fun p hp => (by simp at hp), fun p hp => (by simp at hp), by simp only [List.nil_append, met]; omega⟩
theorem str_inv {m : Mov} {xs : List (Int × Int)} {K : Int} (hm : MvOk m) (hf : Full xs) (hK : InK K xs) : ∀ k, k ≤ xs.length → Full (strTo m xs k) ∧ InK (K + 10000000) (strTo m xs k) ∧ met (strTo m xs k) ≤ met (xs.take k)
  | 0, _ => ⟨fun p hp => (by cases hp), fun p hp => (by cases hp), by simp [strTo, met]⟩
  | k + 1, hk => by
    obtain ⟨a, b, c⟩ := str_inv hm hf hK k (by omega)
    obtain ⟨d, e, f⟩ := pt_inv hm (hf _ (atp_mem (show k < xs.length by omega))) (hK _ (atp_mem (show k < xs.length by omega)))
    simp only [strTo]
    refine ⟨fun p hp => ?_, fun p hp => ?_, ?_⟩
    · rcases List.mem_append.1 hp with hp | hp
      · exact a p hp
      · exact d p hp
    · rcases List.mem_append.1 hp with hp | hp
      · exact b p hp
      · exact e p hp
    · rw [met_append, met_take xs k (by omega)]
      omega
/-- What is left of stretches behind the first k steps. -/
def keepTo (ms : List Mov) (l : List (Int × Int)) : Nat → List (Int × Int)
  | 0 => l
  | k + 1 => strTo (mvAt ms k) (keepTo ms l k) (keepTo ms l k).length
theorem keep_inv {ms : List Mov} {l : List (Int × Int)} (hm : ∀ j, j < ms.length → MvOk (mvAt ms j)) (hf : Full l) (hK : InK 10000000 l) : ∀ k, k ≤ ms.length → Full (keepTo ms l k) ∧ InK (10000000 * ((k : Int) + 1)) (keepTo ms l k) ∧ met (keepTo ms l k) ≤ met l
  | 0, _ => ⟨hf, by simpa [keepTo] using hK, Int.le_refl _⟩
  | k + 1, hk => by
    obtain ⟨a, b, c⟩ := keep_inv hm hf hK k (by omega)
    obtain ⟨d, e, f⟩ := str_inv (hm k (by omega)) a b _ (Nat.le_refl _)
    simp only [keepTo]
    refine ⟨d, fun p hp => ?_, ?_⟩
    · have := e p hp
      omega
    · rw [List.take_length] at f
      omega
theorem InK.sm {K : Int} {l : List (Int × Int)} (h : InK K l) (hK : K ≤ 1000000000) : ∀ p ∈ l, SmS p := fun p hp => by
  obtain ⟨⟨a, b⟩, c, d⟩ := h p hp
  exact ⟨⟨by omega, by omega⟩, by omega, by omega⟩
theorem one_pair (w : World) (a b : Int) (T : TypeId) {H : Nat} (hH : w.heap.size = H) : Pairs (w.alloc (.cells #[.int .i64 a, .int .i64 b] T)) (w.alloc (.cells #[.int .i64 a, .int .i64 b] T)).heap.size (some ⟨H, 0, none⟩) [(a, b)] := by
  subst hH
  refine .inr ⟨w.heap.size, 0, rfl, by simp, fun j hj => ?_⟩
  have hj : j < 1 := hj
  obtain rfl : j = 0 := by omega
  simp [go_sem, atp]
set_option maxRecDepth 100000 in
set_option maxHeartbeats 4000000 in
theorem lkept (A : Option Addr) (cm B : Nat) (ms : List Mov) (s : Int × Int) (w : World) (h : Movs w B A ms) (hB : B ≤ w.heap.size) (hn : ms.length ≤ 80) (hm : ∀ j, j < ms.length → MvOk (mvAt ms j)) (hs : s.1 < s.2) (s0 : 0 ≤ s.1) (s1 : s.2 ≤ 10000000) :
    Calls Tryz.prog 43 #[.slice A ms.length cm, .agg #[.int .i64 s.1, .int .i64 s.2]] w (UnRes (keepTo ms [s] ms.length) w) := by
  have hF : Full [s] := fun p hp => by rw [List.mem_singleton.1 hp]; exact hs
  have hK : InK 10000000 [s] := fun p hp => by rw [List.mem_singleton.1 hp]; omega
  have HI := Lib.hid (keep_inv hm hF hK)
  have HM := Lib.hid hm
  have hmet : met [s] ≤ 10000000 := by simp only [met]; omega
  have HMET := Lib.hid hmet
  have hal : Below w.heap.size w ((w.alloc (.cells #[.int .i64 s.1, .int .i64 s.2] 59)).alloc (.cells #[.int .i64 s.1, .int .i64 s.2] 59)) := ((Below.refl _ _).alloc (Nat.le_refl _) _).alloc (by simp) _
  have hP := one_pair (w.alloc (.cells #[.int .i64 s.1, .int .i64 s.2] 59)) s.1 s.2 59 (H := w.heap.size + 1) (by simp)
  clear hm hF hK hmet
  go_enter Tryz.func43, Tryz.ntmps43
  go_wp2_with fail
  generalize (w.alloc (.cells #[.int .i64 s.1, .int .i64 s.2] 59)).alloc (.cells #[.int .i64 s.1, .int .i64 s.2] 59) = w2 at *
  go_loopw [5, 12] (fun out i wr => ∃ (k : Nat) (A' : Option Addr) (c' : Nat), k ≤ ms.length ∧ i = .int .i64 k ∧ out = .slice A' (keepTo ms [s] k).length c' ∧ Pairs wr wr.heap.size A' (keepTo ms [s] k) ∧ Below w.heap.size w wr) (fun _ i _ => ms.length - (intOf i).toNat)
  case atStart => exact ⟨0, _, _, Nat.zero_le _, rfl, rfl, hP, hal⟩
  case round =>
    clear hP hal
    obtain ⟨k, A', c', hk, rfl, rfl, hP, hb⟩ := hrel
    have hbs := hb.size
    obtain ⟨i1, i2, i3⟩ := HI.out k hk
    have hlen := met_ge i1
    have hl7 : (keepTo ms [s] k).length ≤ 10000000 := by have := HMET.out; omega
    have hsm : ∀ p ∈ keepTo ms [s] k, SmS p := i2.sm (by omega)
    have HSM := Lib.hid hsm
    have HF := Lib.hid i1
    clear i1 i2 i3 hlen hsm
    by_cases hlt : k < ms.length
    · obtain ⟨b, off, hA, hbb, u0, u1, u2⟩ := (h.below (hb.mono hB)).at_ hlt
      subst hA
      have hba := hb.alloc hbs (.cells #[.int .i64 (mvAt ms k).a, .int .i64 (mvAt ms k).b, .int .i64 (mvAt ms k).grow] 110)
      have hP1 := hP.below ((Below.refl wr.heap.size wr).alloc (Nat.le_refl _) (.cells #[.int .i64 (mvAt ms k).a, .int .i64 (mvAt ms k).b, .int .i64 (mvAt ms k).grow] 110))
      clear hP
      go_wp2_with fail
      refine (lstretches (mvAt ms k) A' c' wr.heap.size (keepTo ms [s] k) _ hP1 (by simp) (HM.out k hlt).sm HSM.out hl7).mono ?_
      rintro e w3 ⟨A3, c3, rfl, hP3, hb3⟩
      have hb4 := hba.trans (hb3.mono hba.size)
      go_wp2_with fail
      exact ⟨⟨k + 1, A3, c3, by omega, by go_num, rfl, hP3, hb4⟩, by simp [intOf]; omega⟩
    · obtain rfl : k = ms.length := by omega
      go_wp2_with fail
      refine (lUnion A' c' wr.heap.size (keepTo ms [s] ms.length) wr hP HSM.out hl7).mono ?_
      rintro e w3 hu
      obtain ⟨us, A3, c3, n1, n2, n3, rfl, hP3, hb3⟩ := hu.norm HF.out
      go_wp2
      go_ret
      exact ⟨us, A3, c3, n1, n2, n3, rfl, hP3, hb.trans (hb3.mono hb.size)⟩
end Go.Proofs.YtdmmcdbojmalfaaGreat
