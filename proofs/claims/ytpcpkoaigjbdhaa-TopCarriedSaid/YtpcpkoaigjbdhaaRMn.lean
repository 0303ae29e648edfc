/- Contract of the reference's Minus (45). -/
import Derived.Test.YtpcpkoaigjbdhaaUnf
import Derived.Test.YtpcpkoaigjbdhaaRLf
import Derived.Deep.RegionHeld3
namespace Go.Proofs.Ytpcpkoaigjbdhaa
open Go.RowKit
/-- What is left of one stretch, no metre moved. -/
theorem pt_cut (h : Int × Int) (s : Int × Int) : ptTo (mvOf h.1 (h.2 - h.1) (h.2 - h.1)) s 2 = (if s.1 < min s.2 h.1 then [(s.1, min s.2 h.1)] else []) ++ (if max s.1 h.2 < s.2 then [(max s.1 h.2, s.2)] else []) := by
  rw [pt_ref]
  have e : h.1 + (h.2 - h.1) = h.2 := by omega
  rw [e]
  have e1 : max s.1 h.2 + (h.2 - h.1) - (h.2 - h.1) = max s.1 h.2 := by omega
  have e2 : s.2 + (h.2 - h.1) - (h.2 - h.1) = s.2 := by omega
  rw [e1, e2]
theorem cut_one {h s : Int × Int} (hh : h.1 < h.2) (hs : s.1 < s.2) : Norm (ptTo (mvOf h.1 (h.2 - h.1) (h.2 - h.1)) s 2) ∧ (∀ p ∈ ptTo (mvOf h.1 (h.2 - h.1) (h.2 - h.1)) s 2, s.1 ≤ p.1 ∧ p.2 ≤ s.2) ∧ ∀ c, InS (ptTo (mvOf h.1 (h.2 - h.1) (h.2 - h.1)) s 2) c ↔ (InX s c ∧ ¬ InX h c) := by
  rw [pt_cut]
  by_cases c1 : s.1 < min s.2 h.1 <;> by_cases c2 : max s.1 h.2 < s.2
  · rw [if_pos c1, if_pos c2]
    refine ⟨norm_snoc.2 ⟨norm_cons.2 ⟨c1, fun q hq => by (cases hq), norm_nil⟩, c2, fun p hp => ?_⟩, fun p hp => ?_, fun c => ?_⟩
    · rw [List.mem_singleton.1 hp]; simp only; omega
    · rcases List.mem_append.1 hp with hp | hp <;> rw [List.mem_singleton.1 hp] <;> simp only <;> omega
    · rw [inS_append, inS_one, inS_one]; unfold InX; simp only; omega
  · rw [if_pos c1, if_neg c2, List.append_nil]
    refine ⟨norm_cons.2 ⟨c1, fun q hq => by (cases hq), norm_nil⟩, fun p hp => ?_, fun c => ?_⟩
    · rw [List.mem_singleton.1 hp]; simp only; omega
    · rw [inS_one]; unfold InX; simp only; omega
  · rw [if_neg c1, if_pos c2, List.nil_append]
    refine ⟨norm_cons.2 ⟨c2, fun q hq => by (cases hq), norm_nil⟩, fun p hp => ?_, fun c => ?_⟩
    · rw [List.mem_singleton.1 hp]; simp only; omega
    · rw [inS_one]; unfold InX; simp only; omega
  · rw [if_neg c1, if_neg c2, List.append_nil]
    refine ⟨norm_nil, fun p hp => by (cases hp), fun c => ⟨fun h => absurd h inS_nil, fun hc => ?_⟩⟩
    exfalso
    unfold InX at hc
    omega
theorem norm_append {a b : List (Int × Int)} (ha : Norm a) (hb : Norm b) (hab : ∀ p ∈ a, ∀ q ∈ b, p.2 < q.1) : Norm (a ++ b) := by
  refine ⟨fun p hp => ?_, List.pairwise_append.2 ⟨ha.2, hb.2, hab⟩⟩
  rcases List.mem_append.1 hp with hp | hp
  · exact ha.1 p hp
  · exact hb.1 p hp
theorem cut_inv {h : Int × Int} {xs : List (Int × Int)} (hh : h.1 < h.2) (hn : Norm xs) : ∀ k, k ≤ xs.length → Norm (strTo (mvOf h.1 (h.2 - h.1) (h.2 - h.1)) xs k) ∧ (∀ p ∈ strTo (mvOf h.1 (h.2 - h.1) (h.2 - h.1)) xs k, ∃ i, i < k ∧ (atp xs i).1 ≤ p.1 ∧ p.2 ≤ (atp xs i).2) ∧ ∀ c, InS (strTo (mvOf h.1 (h.2 - h.1) (h.2 - h.1)) xs k) c ↔ (InTo xs k c ∧ ¬ InX h c)
  | 0, _ => ⟨norm_nil, fun p hp => by (cases hp), fun c => ⟨fun hc => absurd hc inS_nil, fun ⟨⟨_, hi, _⟩, _⟩ => by omega⟩⟩
  | k + 1, hk => by
    obtain ⟨a, b, c⟩ := cut_inv hh hn k (by omega)
    obtain ⟨d, e, f⟩ := cut_one hh (hn.1 _ (atp_mem (show k < xs.length by omega)))
    simp only [strTo]
    refine ⟨norm_append a d fun p hp q hq => ?_, fun p hp => ?_, fun c' => ?_⟩
    · obtain ⟨i, hi, _, h2⟩ := b p hp
      have := norm_lt hn hi (by omega)
      have := (e q hq).1
      omega
    · rcases List.mem_append.1 hp with hp | hp
      · obtain ⟨i, hi, h1⟩ := b p hp
        exact ⟨i, by omega, h1⟩
      · exact ⟨k, by omega, e p hp⟩
    · rw [inS_append, c c', f c', inTo_succ]
      constructor
      · rintro (⟨h1, h2⟩ | ⟨h1, h2⟩)
        · exact ⟨.inl h1, h2⟩
        · exact ⟨.inr h1, h2⟩
      · rintro ⟨h1 | h1, h2⟩
        · exact .inl ⟨h1, h2⟩
        · exact .inr ⟨h1, h2⟩
theorem cut_norm {h : Int × Int} {xs : List (Int × Int)} (hh : h.1 < h.2) (hn : Norm xs) : Norm (strTo (mvOf h.1 (h.2 - h.1) (h.2 - h.1)) xs xs.length) ∧ ∀ c, InS (strTo (mvOf h.1 (h.2 - h.1) (h.2 - h.1)) xs xs.length) c ↔ (InS xs c ∧ ¬ InX h c) := by
  obtain ⟨a, _, c⟩ := cut_inv hh hn xs.length (Nat.le_refl _)
  exact ⟨a, fun c' => by rw [c c', inTo_all]⟩
/-- What Minus answers. -/
def MinRes (a b : List (Int × Int)) (w : World) (e : Ending) (w' : World) : Prop :=
  (¬ (LetL a ∧ LetL b) → e = .returned (.tuple #[.slice none 0 0, .int .i64 2])) ∧
  (LetL a ∧ LetL b → ∃ (us : List (Int × Int)) (A' : Option Addr) (c' : Nat), Norm us ∧ (∀ c, InS us c ↔ (InS a c ∧ ¬ InS b c)) ∧ us.length ≤ 10000000 ∧ e = .returned (.tuple #[.slice A' us.length c', .int .i64 0]) ∧ Pairs w' w'.heap.size A' us) ∧ Below w.heap.size w w'
theorem heldS {w2 w' : World} {b i : Nat} {x y : Value} (hb : b < w2.heap.size) (u0 : w2.cell? ⟨b, i, none⟩ = some x) (u1 : w2.cell? ⟨b, i + 1, none⟩ = some y) (h : Below w2.heap.size w2 w') :
    Below w2.heap.size w2 w' ∧ w'.cell? ⟨b, i, none⟩ = some x ∧ w'.cell? ⟨b, i + 1, none⟩ = some y :=
  ⟨h, (h.cell hb).trans u0, (h.cell (p := ⟨b, i + 1, none⟩) hb).trans u1⟩
theorem min_facts {a us : List (Int × Int)} (ha : LetL a) (n1 : Norm us) (n2 : ∀ c, InS us c → InS a c) : (∀ p ∈ us, SmS p) ∧ us.length ≤ 10000000 := by
  obtain ⟨b1, b2⟩ := un_in ha n1 n2
  have hg := met_ge n1.1
  refine ⟨fun p hp => ?_, by omega⟩
  have h1 := b1 p hp
  have h2 := n1.1 p hp
  exact ⟨⟨by omega, by omega⟩, by omega, by omega⟩
end Go.Proofs.Ytpcpkoaigjbdhaa

