/- TopEdicts, plain: the moved edicts are valid. -/
import Derived.Test.YtdmmcdbojmalfaaGreatEdFr
import Derived.Test.YtdmmcdbojmalfaaGreatEdT
import Derived.Test.YtdmmcdbojmalfaaGreatEdJn
namespace Go.Proofs.YtdmmcdbojmalfaaGreat
open Go.RowKit
section
variable {num L : Int} {cs : List Chg}
theorem kept_has (ho : RoadOk num L cs) {a b : Int} (h0 : 0 ≤ a) (h1 : a < b) (h2 : b ≤ L) : ∃ us, KeptOut cs (a, b) 0 cs.length us ∧ us.length ≤ 1 + cs.length := by
  have hL := ho.2.1.2
  have h40 := ho.2.2.1
  have hl : Norm [(a, b)] := ⟨fun p hp => by rw [List.mem_singleton.1 hp]; exact h1, List.pairwise_singleton ..⟩
  have hK : InK 10000000 [(a, b)] := fun p hp => by rw [List.mem_singleton.1 hp]; simp only; omega
  obtain ⟨us, n1, n2, n3⟩ := keep_pieces (moves_ok ho (Nat.zero_le _) (Nat.le_refl _)) hl hK _ (Nat.le_refl _)
  have hml : (movesF cs 0 cs.length).length = cs.length := by rw [movesF_length]; omega
  rw [hml] at n3
  exact ⟨us, ⟨n1, n2, by simp at n3; omega⟩, by simpa [Nat.add_comm] using n3⟩
theorem kept_piece (ho : RoadOk num L cs) {a b : Int} (h0 : 0 ≤ a) (h2 : b ≤ L) {us : List (Int × Int)} (h : KeptOut cs (a, b) 0 cs.length us) : ∀ p ∈ us, 0 ≤ p.1 ∧ p.1 < p.2 ∧ p.2 ≤ lenAt L cs cs.length := fun p hp => by
  have hf := h.1.1 p hp
  have hi := kept_inS ho h
  obtain ⟨d, hd, hr⟩ := (hi p.1).1 ⟨p, hp, Int.le_refl _, hf⟩
  obtain ⟨e, he, hs⟩ := (hi (p.2 - 1)).1 ⟨p, hp, by omega, by omega⟩
  have k1 := fwd_in ho (m := d) ⟨by simp only at hd; omega, by simp only at hd; omega⟩ hr
  have k2 := fwd_in ho (m := e) ⟨by simp only at he; omega, by simp only at he; omega⟩ hs
  omega
theorem moved_valid (ho : RoadOk num L cs) {NL : Int} (hN : NL = lenAt L cs cs.length) {S : List Edc} (hs : ∀ e ∈ S, VEd L e) (hS : S.length ≤ 6) (hc : cs.length ≤ 4) {J2 : List Int} (hJ : VLine NL J2) :
    VEds NL J2 (mvd (kpF cs cs.length) 0 S) ∧ (mvd (kpF cs cs.length) 0 S).length ≤ 30 ∧ (∀ x ∈ mvd (kpF cs cs.length) 0 S, SmE x ∧ 0 ≤ x.fr ∧ x.til ≤ NL) ∧ (∀ x ∈ mvd (kpF cs cs.length) 0 S, ValOk x.topic x.val) := by
  have hk : ∀ e ∈ S, ∃ us, KeptOut cs (e.fr, e.til) 0 cs.length us ∧ us.length ≤ 1 + cs.length := fun e he => by
    obtain ⟨-, -, h1, h2, h3, -, -⟩ := hs e he
    exact kept_has ho (by omega) h2 (by omega)
  have hlen : ∀ (T : List Edc) (n : Nat), (∀ e ∈ T, e ∈ S) → (mvd (kpF cs cs.length) n T).length ≤ 5 * T.length := by
    intro T
    induction T with
    | nil => intro n _; simp [mvd]
    | cons e T ih =>
      intro n h
      have := ih (n + (kpF cs cs.length e).length) fun e' he => h e' (by simp [he])
      obtain ⟨us, h1, h2⟩ := hk e (h e (by simp))
      have h3 : (kpF cs cs.length e).length ≤ 5 := by rw [kpF_of h1]; omega
      simp only [mvd, List.length_append, pcs_length, List.length_cons]
      omega
  have h30 : (mvd (kpF cs cs.length) 0 S).length ≤ 30 := by have := hlen S 0 fun _ h => h; omega
  have hm : ∀ x ∈ mvd (kpF cs cs.length) 0 S, VEd NL x := fun x hx => by
    obtain ⟨e, he, p, hp, i, h1, h2, rfl⟩ := mvd_mem hx
    obtain ⟨us, hu, _⟩ := hk e he
    rw [kpF_of hu] at hp
    obtain ⟨a1, a2, a3, a4, a5, a6, a7⟩ := hs e he
    obtain ⟨b1, b2, b3⟩ := kept_piece ho (by omega) (by omega) hu p hp
    exact ⟨inB_t (by simp only; omega) (by simp only; omega), a2, by simp only; omega, b2, by simp only; omega, a6, a7⟩
  refine ⟨⟨hJ, by omega, fun k hk => hm _ (List.getElem_mem hk), ?_⟩, h30, fun x hx => ?_, fun x hx => ?_⟩
  · rw [List.nodup_iff_pairwise_ne, List.pairwise_map]
    exact List.Pairwise.imp (fun h => by omega) (mvd_asc (kpF cs cs.length) 0 S)
  · obtain ⟨a1, a2, a3, a4, a5, a6, a7⟩ := hm x hx
    have := inB_iff.1 a1
    exact ⟨⟨by omega, by omega⟩, by omega, by omega⟩
  · obtain ⟨-, -, -, -, -, -, a7⟩ := hm x hx
    rcases a7 with ⟨h1, h2⟩ | ⟨h1, h2⟩
    · have := inB_iff.1 h2
      exact .inr (.inl ⟨h1, this.1, this.2⟩)
    · exact .inr (.inr ⟨h1, h2⟩)
end
end Go.Proofs.YtdmmcdbojmalfaaGreat
/- TopEdicts, plain: what the law's walk asks. -/
namespace Go.Proofs.YtdmmcdbojmalfaaGreat
open Go.RowKit
/-- Edicts in the order of their numbers. -/
theorem sorted_of : ∀ (es : List Edc), (es.map (·.num)).Nodup → ∃ S : List Edc, S.Perm es ∧ AscN S
  | [], _ => ⟨[], List.Perm.refl _, List.Pairwise.nil⟩
  | x :: es, h => by
    rw [List.map_cons, List.nodup_cons] at h
    obtain ⟨S, hS, hA⟩ := sorted_of es h.2
    have key : ∀ (T : List Edc), AscN T → (∀ y ∈ T, y.num ≠ x.num) → ∃ U : List Edc, U.Perm (x :: T) ∧ AscN U := by
      intro T
      induction T with
      | nil => intro _ _; exact ⟨[x], List.Perm.refl _, List.pairwise_singleton ..⟩
      | cons y T ih =>
        intro hT hne
        obtain ⟨hy, hT'⟩ := List.pairwise_cons.1 hT
        by_cases hlt : x.num < y.num
        · exact ⟨x :: y :: T, List.Perm.refl _, List.pairwise_cons.2 ⟨fun z hz => by
            rcases List.mem_cons.1 hz with rfl | hz
            · exact hlt
            · have := hy z hz; omega, hT⟩⟩
        · obtain ⟨U, hU, hUA⟩ := ih hT' fun z hz => hne z (by simp [hz])
          refine ⟨y :: U, (List.Perm.cons y hU).trans (List.Perm.swap x y T), List.pairwise_cons.2 ⟨fun z hz => ?_, hUA⟩⟩
          rcases List.mem_cons.1 (hU.mem_iff.1 hz) with rfl | hz
          · have := hne y (by simp); omega
          · exact hy z hz
    obtain ⟨U, hU, hUA⟩ := key S hA fun y hy e => h.1 (by rw [← e]; exact List.mem_map.2 ⟨y, hS.mem_iff.1 hy, rfl⟩)
    exact ⟨U, hU.trans (List.Perm.cons x hS), hUA⟩
theorem ved_in {L : Int} {e : Edc} (h : VEd L e) : SmE e ∧ 0 ≤ e.fr ∧ e.fr < e.til ∧ e.til ≤ L := by
  obtain ⟨a1, -, a3, a4, a5, -, -⟩ := h
  have := inB_iff.1 a1
  exact ⟨⟨by omega, by omega⟩, by omega, a4, by omega⟩
section
variable {num L : Int} {cs : List Chg}
theorem mvd_len (ho : RoadOk num L cs) {S : List Edc} (hs : ∀ e ∈ S, VEd L e) (hc : cs.length ≤ 4) : ∀ (T : List Edc) (n : Nat), (∀ e ∈ T, e ∈ S) → (mvd (kpF cs cs.length) n T).length ≤ 5 * T.length
  | [], n, _ => by simp [mvd]
  | e :: T, n, h => by
    have ih := mvd_len ho hs hc T (n + (kpF cs cs.length e).length) fun e' he => h e' (by simp [he])
    obtain ⟨-, h1, h2, h3⟩ := ved_in (hs e (h e (by simp)))
    obtain ⟨us, k1, k2⟩ := kept_has ho h1 h2 h3
    have k3 : (kpF cs cs.length e).length ≤ 5 := by rw [kpF_of k1]; omega
    simp only [mvd, List.length_append, pcs_length, List.length_cons]
    omega
end
theorem wv_ok {hour : Int} {S : List Edc} {L : Nat} (hv : ∀ x ∈ S, ValOk x.topic x.val) (d : Int) (k : Nat) : wvF 2 d hour S L k = 0 ∨ wvF 2 d hour S L k = 1 := by
  have := str_val (topic := 2) (dir := d) (hour := hour) (S := S) (fun e he h => by rw [← h]; exact hv e he) (metN L d k)
  unfold wvF
  unfold ValOk at this
  omega
theorem vline_of {NL : Int} {J : List Int} {n : Nat} (hN : 1 ≤ NL ∧ NL ≤ 400) (hJ : GoodJ NL J) (hl : J.length ≤ n) (hn : n ≤ 5) : VLine NL J := ⟨⟨hN.1, by omega⟩, by omega, fun k hk => hJ k hk⟩
end Go.Proofs.YtdmmcdbojmalfaaGreat
