/- TopCarried: whole and keptAll. -/
import Derived.Test.YtpcpkoaigjbdhaaTcP
import Derived.Test.YtpcpkoaigjbdhaaStW
import Derived.Test.YtpcpkoaigjbdhaaKpt
import Derived.OwnWalk
namespace Go.Proofs.Ytpcpkoaigjbdhaa
open Go.RowKit
theorem run_append_nil_any {P : Program} {w : World} (base : Nat) (t ty e : TypeId) (i : TypeInfo) (size : Nat) (ht : P.underlying t = some (.slice e)) (hi : P.info? e = some i)
    (v : Value) (n : Nat) (xs : List Value) (hown : w.ownsRow base e size v n xs) (c : Nat) :
    (Builtin.append_ #[t, t] ty #[v, .slice none 0 c]).run P w = .ok v w := by
  rcases hown.2 with ⟨rfl, rfl⟩ | ⟨g, cap, cur, rfl, _, _, hnc, _⟩
  · simp [Builtin.append_, run_underlying ht, sizeOf, typeInfo, hi, Builtin.lenOf, Builtin.firstCells]
  · simp [Builtin.append_, run_underlying ht, sizeOf, typeInfo, hi, Builtin.lenOf, Builtin.firstCells, hnc, storeCells]
/-- 'append(s, xs...)' of a whole list of stretches, nil or not, to a row that the call owns. -/
theorem wpList_append_any {ops : Array Oper} {rest : List Oper} {o : Oper} {a : Act} {w : World} {Q : Exit → Act → World → Prop} (hgd : o.guard = none) (s x : Operand)
    (ho : o.op = .call { callee := .builtin .append, args := #[s, x], argTypes := #[36, 36] })
    (base : Nat) (v : Value) (n : Nat) (Lo : List (Int × Int)) (hs : a.eval s = v) (hown : w.ownsRow base 26 2 v n (pcells Lo))
    (A : Option Addr) (c B : Nat) (xs : List (Int × Int)) (hP : Pairs w B A xs) (hx : a.eval x = .slice A xs.length c)
    (h63 : n + xs.length ≤ 1000000) (hbase : base ≤ w.heap.size)
    (h : ∀ v' w', w'.ownsRow base 26 2 v' (n + xs.length) (pcells (Lo ++ xs)) → w.grownBy w' v.ownBlock → wpList Try.prog ops Q rest (a.put o.dst v') w') : wpList Try.prog ops Q (o :: rest) a w := by
  obtain ⟨i0, hi, hz0, hz2, hz3⟩ := info_parts info26
  cases A with
  | none =>
    obtain rfl : xs = [] := by
      rcases hP with h | ⟨_, _, h, _⟩
      · exact h
      · cases h
    refine wpList_plain hgd fun K hK => ?_
    have hrun := run_append_nil_any (P := Try.prog) (w := w) base 36 o.type 26 i0 2 Try.underlying36 hi v n (pcells Lo) hown c
    have hx' : a.eval x = .slice none 0 c := hx
    unfold Oper.wp
    simp [execOp, ho, resolve, invoke, builtin, hs, hx', hrun, Result.andThen]
    exact hK _ _ (h v w (by simpa using hown) ⟨rfl, rfl, rfl, Nat.le_refl _, fun _ _ _ => rfl⟩)
  | some ad =>
    refine wpList_append_own_at w hgd s x 36 ho base 26 i0 (.agg #[.int .i64 0, .int .i64 0]) 2 16 Try.underlying36 hi hz0 hz2 hz3 rfl (by decide) v n (pcells Lo) hs hown ad xs.length c (pcells xs) hx (pcells_length xs) hP.news pcells_one_cell (by unfold maxLen; omega) (by omega) hbase ?_
    intro v' w' h1 h2 _ _
    exact h v' w' (by rw [pcells_append]; exact h1) h2
theorem met_take_bd {us : List (Int × Int)} (h : Full us) : ∀ k, k ≤ us.length → 0 ≤ met (us.take k) ∧ met (us.take k) ≤ met us := by
  intro k hk
  have e : met us = met (us.take k) + met (us.drop k) := by rw [← met_append, List.take_append_drop]
  have h1 := met_ge (l := us.take k) fun p hp => h p (List.mem_of_mem_take hp)
  have h2 := met_ge (l := us.drop k) fun p hp => h p (List.mem_of_mem_drop hp)
  omega
set_option maxRecDepth 100000 in
set_option maxHeartbeats 4000000 in
theorem lwhole (A : Option Addr) (c B : Nat) (us : List (Int × Int)) (w : World) (h : Pairs w B A us) (hN : Norm us) (hb : ∀ p ∈ us, 0 ≤ p.1 ∧ p.2 ≤ 10000000) (hl : us.length ≤ 10000000) :
    Calls Try.prog 12 #[.slice A us.length c] w fun e w' => e = .returned (.int .i64 (met us)) ∧ Drew w w' := by
  have hm := met_within (lo := 0) (K := 10000000) hN hb (by omega)
  have HN := Lib.hid hN
  have HBD := Lib.hid (met_take_bd hN.1)
  have HK := Lib.hid hb
  clear hN hb
  obtain ⟨w6, rfl⟩ : ∃ w6 : World, w6 = w := ⟨_, rfl⟩
  go_enter Try.func12, Try.ntmps12
  go_wp2_with fail
  go_loopw [3, 4] (fun nv i wr => ∃ k : Nat, k ≤ us.length ∧ i = .int .i64 k ∧ nv = .int .i64 (met (us.take k)) ∧ Drew w6 wr) (fun _ i _ => us.length - (intOf i).toNat)
  case atStart => exact ⟨0, Nat.zero_le _, rfl, rfl, Drew.refl _⟩
  case round =>
    obtain ⟨k, hk, rfl, rfl, hd⟩ := hrel
    obtain ⟨b0, b1⟩ := HBD.out k hk
    by_cases hlt : k < us.length
    · obtain ⟨b, o, rfl, _, hc⟩ := (h.keep fun p _ => hd.cell p).at_ hlt
      obtain ⟨y1, y2⟩ := hc k hlt
      have hf := HN.out.1 _ (atp_mem hlt)
      have hin := HK.out _ (atp_mem hlt)
      obtain ⟨i0, i1⟩ := hin
      have hnx := (HBD.out (k + 1) hlt)
      have hst := met_take us k hlt
      rw [hst] at hnx
      obtain ⟨b2, b3⟩ := hnx
      have HST := Lib.hid hst
      clear hst
      rcases k with _ | m
      · clear hc
        simp only [Nat.zero_mul, Nat.add_zero] at y1 y2 hf i0 i1
        have e0 : met (us.take 0) = 0 := rfl
        have HST1 : Hid (met (us.take 1) = (atp us 0).2 - (atp us 0).1) := by refine Lib.hid ?_; have := HST.out; rw [e0, Int.zero_add] at this; exact this
        rw [e0, Int.zero_add] at b2 b3
        rw [e0]
        clear e0 b0 b1 HST
        have v4 : (0 : Int) < (us.length : Int) := by omega
        have g1 : decide ((atp us 0).2 ≤ (atp us 0).1) = false := by simp; omega
        go_wp2_with fail
        go_quiet (fail)
        go_wp2_with fail
        go_quiet (fail)
        have hd2 := hd.drewN nq
        go_wp2_with fail
        exact ⟨⟨1, by omega, rfl, by rw [HST1.out], by first | exact hd2 | exact hd.drewN _⟩, by simp [intOf]; omega⟩
      · obtain ⟨_, y3⟩ := hc m (by omega)
        have hnn := norm_lt HN.out (Nat.lt_succ_self m) hlt
        have v4 : (m : Int) + 1 < (us.length : Int) := by omega
        have v5 : m < us.length := by omega
        have v6 : (m : Int) < (us.length : Int) := by omega
        have v7 : (0 : Int) < (m : Int) + 1 := by omega
        have g1 : decide ((atp us (m + 1)).2 ≤ (atp us (m + 1)).1) = false := by simp; omega
        have g2 : decide ((0 : Int) < (m : Int) + 1) = true := by first | (simp; done) | (simp; omega)
        have g3 : decide ((atp us (m + 1)).1 ≤ (atp us m).2) = false := by simp; omega
        clear hc
        go_wp2_with fail
        go_quiet (fail)
        go_wp2_with fail
        go_quiet (fail)
        go_wp2_with fail
        exact ⟨⟨m + 1 + 1, by omega, by go_num, by rw [HST.out], hd.drewN _⟩, by simp [intOf]; omega⟩
    · obtain rfl : k = us.length := by omega
      rw [List.take_length]
      go_wp2
      go_ret
      exact ⟨rfl, hd⟩
end Go.Proofs.Ytpcpkoaigjbdhaa
