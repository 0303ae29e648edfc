/- TopEdicts, plain: the signs that Propose makes say what is wanted. -/
import Derived.Test.YtdmmcdbojmalfaaGreatEdCo
namespace Go.Proofs.YtdmmcdbojmalfaaGreat
open Go.RowKit
theorem disF_disF (L dir c : Int) : disF L dir (disF L dir c) = c := by
  unfold disF
  split <;> omega
/-- Two lists that ascend by a number and hold the same things are one. -/
theorem by_unique {α : Type} (f : α → Int) : ∀ {a b : List α}, (a.Pairwise fun x y => f x < f y) → (b.Pairwise fun x y => f x < f y) → a.Perm b → a = b
  | [], b, _, _, h => (List.Perm.nil_eq h)
  | x :: xs, [], _, _, h => (List.Perm.eq_nil h)
  | x :: xs, y :: ys, ha, hb, h => by
    have e : x = y := by
      have hx : x ∈ y :: ys := h.mem_iff.1 (by simp)
      have hy : y ∈ x :: xs := h.mem_iff.2 (by simp)
      rcases List.mem_cons.1 hx with h1 | h1
      · exact h1
      · rcases List.mem_cons.1 hy with h2 | h2
        · exact h2.symm
        · have := (List.pairwise_cons.1 ha).1 y h2
          have := (List.pairwise_cons.1 hb).1 x h1
          omega
    subst e
    rw [by_unique f (List.pairwise_cons.1 ha).2 (List.pairwise_cons.1 hb).2 ((List.perm_cons x).1 h)]
theorem by_strict {α : Type} (f : α → Int) {a b : List α} (ha : a.Pairwise fun x y => f x ≤ f y) (hb : b.Pairwise fun x y => f x < f y) (hp : a.Perm b) : a.Pairwise fun x y => f x < f y := by
  have nd : (b.map f).Nodup := by
    rw [List.nodup_iff_pairwise_ne, List.pairwise_map]
    exact List.Pairwise.imp (fun hh => by omega) hb
  have nd2 : (a.map f).Nodup := (hp.map _).nodup_iff.2 nd
  rw [List.nodup_iff_pairwise_ne, List.pairwise_map] at nd2
  exact List.Pairwise.imp₂ (fun a b h1 h2 => by omega) ha nd2
theorem pts_asc (Wv : Nat → Int) (Jn : Nat → Prop) [DecidablePred Jn] : ∀ n, ((pts Wv Jn n).Pairwise fun a b => a < b) ∧ ∀ k ∈ pts Wv Jn n, k < n
  | 0 => ⟨List.Pairwise.nil, fun k hk => by cases hk⟩
  | n + 1 => by
    obtain ⟨h1, h2⟩ := pts_asc Wv Jn n
    unfold pts
    split
    · exact ⟨h1, fun k hk => by have := h2 k hk; omega⟩
    · refine ⟨List.pairwise_append.2 ⟨h1, List.pairwise_singleton .., fun a ha b hb => by rw [List.mem_singleton.1 hb]; exact h2 a ha⟩, fun k hk => ?_⟩
      rcases List.mem_append.1 hk with h | h
      · have := h2 k h; omega
      · rw [List.mem_singleton.1 h]; omega
theorem rcF_fold (L dir far : Int) : ∀ (J : List Int) (e : Int), far < e → let r := J.foldl (rcS L dir far) e; far < r ∧ r ≤ e ∧ (∀ j ∈ J, far < disF L dir j → r ≤ disF L dir j) ∧ (r = e ∨ ∃ j ∈ J, r = disF L dir j)
  | [], e, h => ⟨h, Int.le_refl _, fun j hj => (by cases hj), .inl rfl⟩
  | j :: J, e, h => by
    have he : far < rcS L dir far e j := by
      unfold rcS
      split
      · omega
      · exact h
    obtain ⟨h1, h2, h3, h4⟩ := rcF_fold L dir far J (rcS L dir far e j) he
    simp only [List.foldl_cons]
    have hle : rcS L dir far e j ≤ e := by unfold rcS; split <;> omega
    refine ⟨h1, by omega, fun i hi hf => ?_, ?_⟩
    · rcases List.mem_cons.1 hi with rfl | hi
      · have : rcS L dir far e i ≤ disF L dir i := by unfold rcS; rw [if_pos hf]; omega
        omega
      · exact h3 i hi hf
    · rcases h4 with h4 | ⟨i, hi, h4⟩
      · by_cases hf : far < disF L dir j
        · have e1 : rcS L dir far e j = min e (disF L dir j) := by unfold rcS; rw [if_pos hf]
          rcases Int.le_total e (disF L dir j) with hh | hh
          · left; rw [h4, e1]; omega
          · right; refine ⟨j, by simp, ?_⟩; rw [h4, e1]; omega
        · have e1 : rcS L dir far e j = e := by unfold rcS; rw [if_neg hf]
          left; rw [h4, e1]
      · exact .inr ⟨i, by simp [hi], h4⟩
theorem rc_facts (L : Nat) (dir : Int) (J : List Int) (k : Nat) (hk : k < L) :
    (k : Int) < rcF L dir k J ∧ rcF L dir k J ≤ L ∧ (∀ j : Nat, k < j → j < L → jnP L dir J j → rcF L dir k J ≤ j) ∧ (rcF L dir k J < L → ∃ j : Nat, rcF L dir k J = j ∧ jnP L dir J j) := by
  obtain ⟨h1, h2, h3, h4⟩ := rcF_fold L dir k J L (by omega)
  refine ⟨h1, h2, fun j hkj _ hj => ?_, fun hlt => ?_⟩
  · have := h3 _ hj
    rw [disF_disF] at this
    exact this (by omega)
  · rcases h4 with h4 | ⟨i, hi, h4⟩
    · have : rcF L dir k J = L := h4
      omega
    · have h4' : rcF L dir k J = disF L dir i := h4
      refine ⟨(rcF L dir k J).toNat, by omega, ?_⟩
      show disF L dir (((rcF L dir k J).toNat : Nat) : Int) ∈ J
      rw [Int.toNat_of_nonneg (by omega), h4', disF_disF]
      exact hi
theorem evRow_filter (L dir topic : Int) (J : List Int) : ∀ (ys : List Mee) (s : List (Int × Int) × Int), ys.foldl (evStep L dir topic J) s = (ys.filter fun x => saysB topic x.s).foldl (evStep L dir topic J) s
  | [], s => rfl
  | y :: ys, s => by
    by_cases h : saysB topic y.s = true
    · rw [List.filter_cons_of_pos (by simpa using h), List.foldl_cons, List.foldl_cons, evRow_filter L dir topic J ys]
    · rw [List.filter_cons_of_neg (by simpa using h), List.foldl_cons]
      have : evStep L dir topic J s y = s := by unfold evStep; rw [if_neg h]
      rw [this, evRow_filter L dir topic J ys]
/-- A row of posts. -/
def postsM (topic dir hour L : Int) (Wv : Nat → Int) (n : Nat) (ks : List Nat) : List Mee := (psg topic dir hour L Wv n ks).map fun s => ⟨s, disF L dir s.chain⟩
theorem postsM_cons (topic dir hour L : Int) (Wv : Nat → Int) (n k : Nat) (ks : List Nat) : postsM topic dir hour L Wv n (k :: ks) = ⟨postG ((n + 1 : Nat) : Int) topic (Wv k) (disF L dir k) dir hour, k⟩ :: postsM topic dir hour L Wv (n + 1) ks := by
  simp only [postsM, psg, List.map_cons]
  congr 1
  show Mee.mk _ (disF L dir (disF L dir k)) = _
  rw [disF_disF]
theorem postsM_far (topic dir hour L : Int) (Wv : Nat → Int) : ∀ (ks : List Nat) (n : Nat), (postsM topic dir hour L Wv n ks).map (·.far) = ks.map fun (k : Nat) => (k : Int)
  | [], n => rfl
  | k :: ks, n => by rw [postsM_cons, List.map_cons, postsM_far topic dir hour L Wv ks (n + 1), List.map_cons]
theorem says_post (num topic v chain dir hour : Int) (ht : topic = 1 ∨ topic = 2) (hv : topic = 2 → v = 0 ∨ v = 1) : saysV topic (postG num topic v chain dir hour) = v ∧ ∀ t, (t = 1 ∨ t = 2) → (saysB t (postG num topic v chain dir hour) = true ↔ t = topic) := by
  unfold saysV saysB postG postK postV
  rcases ht with rfl | rfl
  · refine ⟨?_, fun t ht => ?_⟩
    · by_cases h : v = 0 <;> simp [h]
    · rcases ht with rfl | rfl <;> by_cases h : v = 0 <;> simp [h]
  · refine ⟨?_, fun t ht => ?_⟩
    · rcases hv rfl with rfl | rfl <;> simp
    · rcases ht with rfl | rfl <;> rcases hv rfl with rfl | rfl <;> simp
theorem posts_fold (topic dir hour : Int) (L : Int) (J : List Int) (Wv : Nat → Int) (ht : topic = 1 ∨ topic = 2) : ∀ (ks : List Nat) (n : Nat) (s : List (Int × Int) × Int), (∀ k ∈ ks, topic = 2 → Wv k = 0 ∨ Wv k = 1) →
    (postsM topic dir hour L Wv n ks).foldl (evStep L dir topic J) s = ks.foldl (postF Wv fun k => rcF L dir k J) s
  | [], n, s, _ => rfl
  | k :: ks, n, s, hv => by
    obtain ⟨h1, h2⟩ := says_post ((n + 1 : Nat) : Int) topic (Wv k) (disF L dir k) dir hour ht (hv k (by simp))
    have hb := (h2 topic ht).2 rfl
    rw [postsM_cons, List.foldl_cons, List.foldl_cons, posts_fold topic dir hour L J Wv ht ks (n + 1) _ fun k' hk' => hv k' (by simp [hk'])]
    congr 1
    unfold evStep postF
    simp only
    rw [if_pos hb, h1]
theorem rowL_append (L dir : Int) (a b : List Sgn) : rowL L dir (a ++ b) = rowL L dir a ++ rowL L dir b := by simp [rowL]
theorem rowL_psg (topic dir hour L : Int) (Wv : Nat → Int) : ∀ (ks : List Nat) (n : Nat), rowL L dir (psg topic dir hour L Wv n ks) = postsM topic dir hour L Wv n ks
  | [], n => rfl
  | k :: ks, n => by
    have ih := rowL_psg topic dir hour L Wv ks (n + 1)
    have e : psg topic dir hour L Wv n (k :: ks) = postG ((n + 1 : Nat) : Int) topic (Wv k) (disF L dir k) dir hour :: psg topic dir hour L Wv (n + 1) ks := rfl
    unfold rowL postsM at *
    rw [e, List.filter_cons_of_pos (by simp [postG]), List.map_cons, List.map_cons, ih]
theorem rowL_other (topic dir d hour L : Int) (Wv : Nat → Int) (hd : dir ≠ d) : ∀ (ks : List Nat) (n : Nat), rowL L d (psg topic dir hour L Wv n ks) = []
  | [], n => rfl
  | k :: ks, n => by
    have ih := rowL_other topic dir d hour L Wv hd ks (n + 1)
    have e : psg topic dir hour L Wv n (k :: ks) = postG ((n + 1 : Nat) : Int) topic (Wv k) (disF L dir k) dir hour :: psg topic dir hour L Wv (n + 1) ks := rfl
    rw [e]
    unfold rowL at *
    rw [List.filter_cons_of_neg (by simp [postG, hd])]
    exact ih
theorem filter_posts (topic dir hour L : Int) (Wv : Nat → Int) (ht : topic = 1 ∨ topic = 2) (t : Int) (ht2 : t = 1 ∨ t = 2) : ∀ (ks : List Nat) (n : Nat), (∀ k ∈ ks, topic = 2 → Wv k = 0 ∨ Wv k = 1) →
    (postsM topic dir hour L Wv n ks).filter (fun x => saysB t x.s) = if t = topic then postsM topic dir hour L Wv n ks else []
  | [], n, _ => by simp [postsM, psg]
  | k :: ks, n, hv => by
    have ih := filter_posts topic dir hour L Wv ht t ht2 ks (n + 1) fun k' hk' => hv k' (by simp [hk'])
    have hb := (says_post ((n + 1 : Nat) : Int) topic (Wv k) (disF L dir k) dir hour ht (hv k (by simp))).2 t ht2
    rw [postsM_cons]
    by_cases h : t = topic
    · rw [List.filter_cons_of_pos (by simpa using hb.2 h), ih, if_pos h, if_pos h]
    · rw [List.filter_cons_of_neg (by simpa using fun hh => h (hb.1 hh)), ih, if_neg h, if_neg h]
section
variable {hour : Int} {S : List Edc} {L : Nat} {J : List Int}
theorem row_pr (t d t' d' : Int) (n : Nat) (ht : t = 1 ∨ t = 2) (ht' : t' = 1 ∨ t' = 2) (hv : ∀ d k, k < L → wvF 2 d hour S L k = 0 ∨ wvF 2 d hour S L k = 1) :
    (rowL L d (prF t' d' hour S L J n)).filter (fun x => saysB t x.s) = if t = t' ∧ d = d' then postsM t d hour L (wvF t d hour S L) n (pts (wvF t d hour S L) (jnP L d J) L) else [] := by
  unfold prF
  by_cases hd : d = d'
  · subst hd
    rw [rowL_psg, filter_posts t' d hour L _ ht' t ht _ _ (fun k hk h2 => by subst h2; exact hv d k ((pts_asc _ _ L).2 k hk))]
    by_cases h : t = t'
    · subst h; rw [if_pos rfl, if_pos ⟨rfl, rfl⟩]
    · rw [if_neg h, if_neg (fun hh => h hh.1)]
  · rw [rowL_other _ _ _ _ _ _ (fun h => hd h.symm), if_neg (fun hh => hd hh.2)]
    rfl
theorem row_pq (t d : Int) (ht : t = 1 ∨ t = 2) (hd : d = 1 ∨ d = -1) (hv : ∀ d k, k < L → wvF 2 d hour S L k = 0 ∨ wvF 2 d hour S L k = 1) :
    ∃ n, (rowL L d (pq4 hour S L J)).filter (fun x => saysB t x.s) = postsM t d hour L (wvF t d hour S L) n (pts (wvF t d hour S L) (jnP L d J) L) := by
  unfold pq4 pq3 pq2 pq1
  simp only [rowL_append, List.filter_append]
  rw [row_pr t d 1 1 _ ht (.inl rfl) hv, row_pr t d 1 (-1) _ ht (.inl rfl) hv, row_pr t d 2 1 _ ht (.inr rfl) hv, row_pr t d 2 (-1) _ ht (.inr rfl) hv]
  rcases ht with rfl | rfl <;> rcases hd with rfl | rfl
  · exact ⟨_, by simp; rfl⟩
  · exact ⟨_, by simp; rfl⟩
  · exact ⟨_, by simp; rfl⟩
  · exact ⟨_, by simp; rfl⟩
/-- What Propose puts up makes hold what must hold. -/
theorem says_all_pq (t d : Int) (ht : t = 1 ∨ t = 2) (hd : d = 1 ∨ d = -1) (hv : ∀ d k, k < L → wvF 2 d hour S L k = 0 ∨ wvF 2 d hour S L k = 1) : SaysAll t d hour S L J (pq4 hour S L J) := by
  intro ys hp ho k hk
  obtain ⟨n, hn⟩ := row_pq (J := J) t d ht hd hv
  have hz : (ys.filter fun x => saysB t x.s).Perm (postsM t d hour L (wvF t d hour S L) n (pts (wvF t d hour S L) (jnP L d J) L)) := by
    rw [← hn]
    exact hp.filter _
  have hs : (postsM t d hour L (wvF t d hour S L) n (pts (wvF t d hour S L) (jnP L d J) L)).Pairwise fun a b => a.far < b.far := by
    have h1 := (pts_asc (wvF t d hour S L) (jnP L d J) L).1
    have h2 : ((postsM t d hour L (wvF t d hour S L) n (pts (wvF t d hour S L) (jnP L d J) L)).map (·.far)).Pairwise (· < ·) := by
      rw [postsM_far, List.pairwise_map]
      exact List.Pairwise.imp (fun h => by omega) h1
    rwa [List.pairwise_map] at h2
  have hle : (ys.filter fun x => saysB t x.s).Pairwise fun a b => a.far ≤ b.far := List.Pairwise.imp (fun {a b} h => by
    rcases Int.lt_or_le b.far a.far with h1 | h1
    · exact absurd (.inl h1) h
    · exact h1) (ho.filter _)
  have he := by_unique (fun x : Mee => x.far) (by_strict (fun x : Mee => x.far) hle hs hz) hs hz
  have hr : evRow L d t J ys = evF (wvF t d hour S L) (fun k => rcF L d k J) (pts (wvF t d hour S L) (jnP L d J) L) := by
    unfold evRow evF
    rw [evRow_filter, he]
    exact posts_fold t d hour L J _ ht _ n _ fun k hk h2 => by subst h2; exact hv d k ((pts_asc _ _ L).2 k hk)
  rw [hr]
  exact ev_all (fun k hk => rc_facts L d J k hk) k hk
end
end Go.Proofs.YtdmmcdbojmalfaaGreat
/- TopEdicts, plain: the signs that Propose makes are valid. -/
namespace Go.Proofs.YtdmmcdbojmalfaaGreat
open Go.RowKit
/-- A value that may hold for a topic. -/
def ValOk (topic v : Int) : Prop := v = 0 ∨ (topic = 1 ∧ 10 ≤ v ∧ v ≤ 200) ∨ (topic = 2 ∧ v = 1)
theorem str_val {topic dir hour : Int} {S : List Edc} (h : ∀ e ∈ S, e.topic = topic → ValOk topic e.val) (m : Nat) : ValOk topic (strF topic dir hour S m) := by
  have key : ∀ (S : List Edc) (v : Int), (∀ e ∈ S, e.topic = topic → ValOk topic e.val) → ValOk topic v → ValOk topic (S.foldl (oneV topic dir hour m) v) := by
    intro S
    induction S with
    | nil => intro v _ hv; exact hv
    | cons e S ih =>
      intro v hs hv
      refine ih _ (fun e' he => hs e' (by simp [he])) ?_
      unfold oneV
      split
      · rename_i hc
        refine hs e (by simp) ?_
        have := hc.1
        unfold actB at this
        simp at this
        exact this.1.1.1
      · exact hv
  exact key S 0 h (.inl rfl)
theorem post_valid {L : Nat} {num topic v dir hour : Int} {k : Nat} (hn : 1 ≤ num ∧ num ≤ 1000000000) (ht : topic = 1 ∨ topic = 2) (hv : ValOk topic v) (hd : dir = 1 ∨ dir = -1) (hh : 0 ≤ hour ∧ hour ≤ 10000000) (hk : k < L) : VSg L (postG num topic v (disF L dir k) dir hour) := by
  have hc : 0 ≤ disF L dir k ∧ disF L dir k ≤ L := by unfold disF; split <;> omega
  refine ⟨inB_t hn.1 hn.2, ?_, ?_, inB_t hc.1 hc.2, ?_, ?_, ?_⟩
  · show 1 ≤ postK topic v ∧ postK topic v ≤ 4
    unfold postK
    split <;> split <;> omega
  · show (postK topic v = 1 ∧ inB 10 (postV topic v) 200 = true) ∨ (postK topic v ≠ 1 ∧ postV topic v = 0)
    unfold postK postV ValOk at *
    rcases ht with rfl | rfl
    · rcases hv with rfl | ⟨-, h1, h2⟩ | ⟨h, -⟩
      · right; simp
      · left
        rw [if_pos rfl, if_neg (by omega), if_pos rfl]
        exact ⟨rfl, inB_t h1 h2⟩
      · omega
    · right
      refine ⟨?_, by rw [if_neg (show ¬ (2 : Int) = 1 by decide)]⟩
      rw [if_neg (show ¬ (2 : Int) = 1 by decide)]
      split <;> decide
  · rcases hd with rfl | rfl <;> rfl
  · rcases ht with rfl | rfl <;> rfl
  · show hrsB hour (hour + 1) = true
    unfold hrsB
    simp
    omega
theorem nodup_le {α : Type} [DecidableEq α] : ∀ {l m : List α}, l.Nodup → (∀ x ∈ l, x ∈ m) → l.length ≤ m.length
  | [], m, _, _ => Nat.zero_le _
  | x :: l, m, hn, h => by
    have hx : x ∈ m := h x (by simp)
    have hn2 := List.nodup_cons.1 hn
    have h2 : ∀ y ∈ l, y ∈ m.erase x := fun y hy => by
      refine (List.mem_erase_of_ne ?_).2 (h y (by simp [hy]))
      rintro rfl
      exact hn2.1 hy
    have := nodup_le hn2.2 h2
    rw [List.length_erase_of_mem hx] at this
    have := List.length_pos_of_mem hx
    simp only [List.length_cons]
    omega
theorem psg_nums (topic dir hour L : Int) (Wv : Nat → Int) : ∀ (ks : List Nat) (n : Nat), (psg topic dir hour L Wv n ks).map (·.num) = (List.range' (n + 1) ks.length).map fun (i : Nat) => (i : Int)
  | [], n => rfl
  | k :: ks, n => by
    have e : psg topic dir hour L Wv n (k :: ks) = postG ((n + 1 : Nat) : Int) topic (Wv k) (disF L dir k) dir hour :: psg topic dir hour L Wv (n + 1) ks := rfl
    rw [e, List.map_cons, psg_nums topic dir hour L Wv ks (n + 1), List.length_cons, List.range'_succ, List.map_cons]
    rfl
theorem pts_mem {Wv : Nat → Int} {Jn : Nat → Prop} [DecidablePred Jn] {k : Nat} : ∀ {n}, k ∈ pts Wv Jn n → k < n ∧ Wv k ≠ curV Wv Jn k
  | 0, h => by cases h
  | n + 1, h => by
    unfold pts at h
    split at h
    · obtain ⟨h1, h2⟩ := pts_mem h
      exact ⟨by omega, h2⟩
    · rename_i hne
      rcases List.mem_append.1 h with h | h
      · obtain ⟨h1, h2⟩ := pts_mem h
        exact ⟨by omega, h2⟩
      · rw [List.mem_singleton.1 h]
        exact ⟨by omega, hne⟩
theorem str_same {topic dir hour : Int} {a b : Nat} : ∀ (S : List Edc) (v : Int), (∀ e ∈ S, actB topic dir hour e = true → ((e.fr ≤ (a : Int) ∧ (a : Int) < e.til) ↔ (e.fr ≤ (b : Int) ∧ (b : Int) < e.til))) →
    S.foldl (oneV topic dir hour a) v = S.foldl (oneV topic dir hour b) v
  | [], v, _ => rfl
  | e :: S, v, h => by
    simp only [List.foldl_cons]
    have : oneV topic dir hour a v e = oneV topic dir hour b v e := by
      unfold oneV
      by_cases ha : actB topic dir hour e = true
      · have := h e (by simp) ha
        by_cases h1 : e.fr ≤ (a : Int) ∧ (a : Int) < e.til
        · rw [if_pos ⟨ha, h1⟩, if_pos ⟨ha, this.1 h1⟩]
        · rw [if_neg (fun hh => h1 hh.2), if_neg (fun hh => h1 (this.2 hh.2))]
      · rw [if_neg (fun hh => ha hh.1), if_neg (fun hh => ha hh.1)]
    rw [this]
    exact str_same S _ fun e' he => h e' (by simp [he])
theorem str_none {topic dir hour : Int} {a : Nat} : ∀ (S : List Edc) (v : Int), (∀ e ∈ S, actB topic dir hour e = true → ¬ (e.fr ≤ (a : Int) ∧ (a : Int) < e.til)) → S.foldl (oneV topic dir hour a) v = v
  | [], v, _ => rfl
  | e :: S, v, h => by
    simp only [List.foldl_cons]
    have : oneV topic dir hour a v e = v := by
      unfold oneV
      rw [if_neg (fun hh => h e (by simp) hh.1 hh.2)]
    rw [this]
    exact str_none S _ fun e' he => h e' (by simp [he])
/-- Why a post stands where it does. -/
theorem post_why {topic dir hour : Int} {S : List Edc} {L : Nat} {J : List Int} {k : Nat} (hk : k ∈ pts (wvF topic dir hour S L) (jnP L dir J) L) (hv : ∀ e ∈ S, 0 ≤ e.fr ∧ e.til ≤ L) (hd : dir = 1 ∨ dir = -1) :
    disF L dir k ∈ J ∨ ∃ e ∈ S, actB topic dir hour e = true ∧ (disF L dir k = e.fr ∨ disF L dir k = e.til) := by
  obtain ⟨hkL, hne⟩ := pts_mem hk
  by_cases hj : disF L dir k ∈ J
  · exact .inl hj
  · right
    apply Classical.byContradiction
    intro hno
    have hno' : ∀ e ∈ S, actB topic dir hour e = true → disF L dir k ≠ e.fr ∧ disF L dir k ≠ e.til := fun e he ha => ⟨fun h => hno ⟨e, he, ha, .inl h⟩, fun h => hno ⟨e, he, ha, .inr h⟩⟩
    apply hne
    cases k with
    | zero =>
      show strF topic dir hour S (metN L dir 0) = 0
      refine str_none S 0 fun e he ha => ?_
      obtain ⟨h1, h2⟩ := hno' e he ha
      obtain ⟨h3, h4⟩ := hv e he
      unfold metN
      rcases hd with rfl | rfl
      · simp [disF] at h1 h2 ⊢; omega
      · simp [disF] at h1 h2 ⊢; omega
    | succ m =>
      show strF topic dir hour S (metN L dir (m + 1)) = if jnP L dir J (m + 1) then 0 else strF topic dir hour S (metN L dir m)
      rw [if_neg hj]
      refine str_same S 0 fun e he ha => ?_
      obtain ⟨h1, h2⟩ := hno' e he ha
      unfold metN
      rcases hd with rfl | rfl
      · simp [disF] at h1 h2 ⊢; omega
      · simp [disF] at h1 h2 ⊢; omega
theorem pts_count {topic dir hour : Int} {S : List Edc} {L : Nat} {J : List Int} (hv : ∀ e ∈ S, 0 ≤ e.fr ∧ e.til ≤ L) (hd : dir = 1 ∨ dir = -1) :
    (pts (wvF topic dir hour S L) (jnP L dir J) L).length ≤ J.length + 2 * (S.filter (actB topic dir hour)).length := by
  have h := nodup_le (l := (pts (wvF topic dir hour S L) (jnP L dir J) L).map fun (k : Nat) => disF L dir k) (m := J ++ ((S.filter (actB topic dir hour)).map (·.fr) ++ (S.filter (actB topic dir hour)).map (·.til))) ?_ ?_
  · simp only [List.length_map, List.length_append] at h
    omega
  · rw [List.nodup_iff_pairwise_ne, List.pairwise_map]
    refine List.Pairwise.imp (fun {a b} hab hh => ?_) (pts_asc (wvF topic dir hour S L) (jnP L dir J) L).1
    have h1 := disF_disF L dir a
    have h2 := disF_disF L dir b
    rw [hh, h2] at h1
    omega
  · intro x hx
    obtain ⟨k, hk, rfl⟩ := List.mem_map.1 hx
    rcases post_why hk hv hd with h | ⟨e, he, ha, h | h⟩
    · exact List.mem_append.2 (.inl h)
    · exact List.mem_append.2 (.inr (List.mem_append.2 (.inl (List.mem_map.2 ⟨e, List.mem_filter.2 ⟨he, ha⟩, h.symm⟩))))
    · exact List.mem_append.2 (.inr (List.mem_append.2 (.inr (List.mem_map.2 ⟨e, List.mem_filter.2 ⟨he, ha⟩, h.symm⟩))))
theorem act_one (t d hour : Int) (e : Edc) : (if actB t d hour e = true then 1 else 0) = if e.topic = t ∧ e.dir = d ∧ e.st ≤ hour ∧ hour < e.en then 1 else 0 := by
  have : actB t d hour e = true ↔ e.topic = t ∧ e.dir = d ∧ e.st ≤ hour ∧ hour < e.en := by
    unfold actB
    simp [and_assoc]
  by_cases h : actB t d hour e = true
  · rw [if_pos h, if_pos (this.1 h)]
  · rw [if_neg h, if_neg (fun hh => h (this.2 hh))]
theorem act_sum (hour : Int) : ∀ S : List Edc, (S.filter (actB 1 1 hour)).length + (S.filter (actB 1 (-1) hour)).length + (S.filter (actB 2 1 hour)).length + (S.filter (actB 2 (-1) hour)).length ≤ S.length
  | [] => by simp
  | e :: S => by
    have ih := act_sum hour S
    have key : ∀ p : Edc → Bool, ((e :: S).filter p).length = (S.filter p).length + if p e = true then 1 else 0 := fun p => by
      by_cases h : p e = true
      · rw [List.filter_cons_of_pos h, if_pos h]; rfl
      · rw [List.filter_cons_of_neg h, if_neg h]; rfl
    rw [key, key, key, key, List.length_cons, act_one, act_one, act_one, act_one]
    by_cases h1 : e.topic = 1 <;> by_cases h2 : e.dir = 1 <;> by_cases h3 : e.st ≤ hour <;> by_cases h4 : hour < e.en <;> by_cases h5 : e.topic = 2 <;> by_cases h6 : e.dir = -1 <;> simp [h1, h2, h3, h4, h5, h6] at * <;> omega
theorem pq4_cap {hour : Int} {S : List Edc} {L : Nat} {J : List Int} (hv : ∀ e ∈ S, 0 ≤ e.fr ∧ e.til ≤ L) (hJ : J.length ≤ 5) (hS : S.length ≤ 30) : (pq4 hour S L J).length ≤ 100 := by
  have h1 := pts_count (topic := 1) (dir := 1) (hour := hour) (J := J) hv (.inl rfl)
  have h2 := pts_count (topic := 1) (dir := -1) (hour := hour) (J := J) hv (.inr rfl)
  have h3 := pts_count (topic := 2) (dir := 1) (hour := hour) (J := J) hv (.inl rfl)
  have h4 := pts_count (topic := 2) (dir := -1) (hour := hour) (J := J) hv (.inr rfl)
  have h5 := act_sum hour S
  unfold pq4 pq3 pq2 pq1 prF
  simp only [List.length_append, psg_length]
  omega
theorem psg_mem {topic dir hour L : Int} {Wv : Nat → Int} {s : Sgn} : ∀ {ks : List Nat} {n : Nat}, s ∈ psg topic dir hour L Wv n ks → ∃ k ∈ ks, ∃ i : Nat, n < i ∧ i ≤ n + ks.length ∧ s = postG i topic (Wv k) (disF L dir k) dir hour
  | [], n, h => by cases h
  | k :: ks, n, h => by
    have e : psg topic dir hour L Wv n (k :: ks) = postG ((n + 1 : Nat) : Int) topic (Wv k) (disF L dir k) dir hour :: psg topic dir hour L Wv (n + 1) ks := rfl
    rw [e] at h
    rcases List.mem_cons.1 h with h | h
    · exact ⟨k, by simp, n + 1, by omega, by simp, h⟩
    · obtain ⟨k', h1, i, h2, h3, h4⟩ := psg_mem h
      exact ⟨k', by simp [h1], i, by omega, by simp; omega, h4⟩
theorem pr_mem {t d hour : Int} {S : List Edc} {L : Nat} {J : List Int} {n : Nat} {s : Sgn} (h : s ∈ prF t d hour S L J n) : ∃ k i : Nat, k < L ∧ 0 < i ∧ i ≤ n + (prF t d hour S L J n).length ∧ s = postG i t (wvF t d hour S L k) (disF L d k) d hour := by
  obtain ⟨k, h1, i, h2, h3, h4⟩ := psg_mem h
  exact ⟨k, i, (pts_asc _ _ L).2 k h1, by omega, by unfold prF; rw [psg_length]; exact h3, h4⟩
theorem pq_mem {hour : Int} {S : List Edc} {L : Nat} {J : List Int} {s : Sgn} (h : s ∈ pq4 hour S L J) : ∃ (t d : Int) (k i : Nat), (t = 1 ∨ t = 2) ∧ (d = 1 ∨ d = -1) ∧ k < L ∧ 0 < i ∧ i ≤ (pq4 hour S L J).length ∧ s = postG i t (wvF t d hour S L k) (disF L d k) d hour := by
  have e4 : (pq4 hour S L J).length = (pq3 hour S L J).length + (prF 2 (-1) hour S L J (pq3 hour S L J).length).length := by unfold pq4; simp
  have e3 : (pq3 hour S L J).length = (pq2 hour S L J).length + (prF 2 1 hour S L J (pq2 hour S L J).length).length := by unfold pq3; simp
  have e2 : (pq2 hour S L J).length = (pq1 hour S L J).length + (prF 1 (-1) hour S L J (pq1 hour S L J).length).length := by unfold pq2; simp
  have e1 : (pq1 hour S L J).length = 0 + (prF 1 1 hour S L J 0).length := by unfold pq1; simp
  have h' : s ∈ ((pq1 hour S L J ++ prF 1 (-1) hour S L J (pq1 hour S L J).length) ++ prF 2 1 hour S L J (pq2 hour S L J).length) ++ prF 2 (-1) hour S L J (pq3 hour S L J).length := h
  rcases List.mem_append.1 h' with h | h
  · rcases List.mem_append.1 h with h | h
    · rcases List.mem_append.1 h with h | h
      · obtain ⟨k, i, h1, h2, h3, h4⟩ := pr_mem h
        exact ⟨1, 1, k, i, .inl rfl, .inl rfl, h1, h2, by omega, h4⟩
      · obtain ⟨k, i, h1, h2, h3, h4⟩ := pr_mem h
        exact ⟨1, -1, k, i, .inl rfl, .inr rfl, h1, h2, by omega, h4⟩
    · obtain ⟨k, i, h1, h2, h3, h4⟩ := pr_mem h
      exact ⟨2, 1, k, i, .inr rfl, .inl rfl, h1, h2, by omega, h4⟩
  · obtain ⟨k, i, h1, h2, h3, h4⟩ := pr_mem h
    exact ⟨2, -1, k, i, .inr rfl, .inr rfl, h1, h2, by omega, h4⟩
theorem pq_nums (hour : Int) (S : List Edc) (L : Nat) (J : List Int) : (pq4 hour S L J).map (·.num) = (List.range' 1 (pq4 hour S L J).length).map fun (i : Nat) => (i : Int) := by
  have st : ∀ (a : List Sgn) (t d : Int), a.map (·.num) = (List.range' 1 a.length).map (fun (i : Nat) => (i : Int)) → (a ++ prF t d hour S L J a.length).map (·.num) = (List.range' 1 (a ++ prF t d hour S L J a.length).length).map fun (i : Nat) => (i : Int) := fun a t d ha => by
    rw [List.map_append, ha]
    unfold prF
    rw [psg_nums, List.length_append, psg_length, ← List.map_append]
    congr 1
    rw [← List.range'_append_1, Nat.add_comm 1]
  have h1 : (pq1 hour S L J).map (·.num) = (List.range' 1 (pq1 hour S L J).length).map fun (i : Nat) => (i : Int) := by
    have := st [] 1 1 rfl
    simpa [pq1] using this
  exact st _ 2 (-1) (st _ 2 1 (st _ 1 (-1) h1))
theorem pq_valid {hour : Int} {S : List Edc} {L : Nat} {J : List Int} (hL : L ≤ 100000) (hh : 0 ≤ hour ∧ hour ≤ 10000000) (hcap : (pq4 hour S L J).length ≤ 100) (hv : ∀ e ∈ S, ValOk e.topic e.val) : VSgs L (pq4 hour S L J) ∧ SgOk hour (pq4 hour S L J) := by
  have hm : ∀ s ∈ pq4 hour S L J, VSg L s ∧ (s.up = hour ∧ s.down = hour + 1) := fun s hs => by
    obtain ⟨t, d, k, i, ht, hd, hk, h0, h1, rfl⟩ := pq_mem hs
    exact ⟨post_valid (by omega) ht (str_val (fun e he h => by rw [← h]; exact hv e he) _) hd hh hk, rfl, rfl⟩
  refine ⟨⟨hcap, fun k hk => (hm _ (List.getElem_mem hk)).1, ?_⟩, ⟨by omega, fun s hs => ?_, fun s hs => ?_⟩⟩
  · rw [pq_nums, List.nodup_iff_pairwise_ne, List.pairwise_map]
    exact List.Pairwise.imp (fun {a b} h hh => by omega) (List.pairwise_lt_range' (s := 1) (n := (pq4 hour S L J).length))
  · obtain ⟨h1, h2, h3⟩ := hm s hs
    have := inB_iff.1 h1.2.2.2.1
    exact ⟨by omega, by omega, by omega, by omega⟩
  · have := (hm s hs).1.2.1
    omega
end Go.Proofs.YtdmmcdbojmalfaaGreat
