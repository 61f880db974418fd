/- The document's table: Drop computes what the lists' own function says; no condition. -/
import Derived.Test.YtkedkajdiclmjaaTh
import Derived.Test.YtkedkajdiclmjaaDg
namespace Go.Proofs.Ytkedkajdiclmjaa.V.D
open Go Go.Proofs.Ytkedkajdiclmjaa.V
set_option linter.unusedVariables false
set_option linter.unusedSimpArgs false

theorem behind_spec {n a m k : Nat} {h : H} {Q : Bool → H → Prop} (ha : a < n) (hm : m < n) (hk : k < n) (hne : a ≠ k) (K : Q (decide (dist n m k < dist n a k)) h) : F.spateref6_behind (a : Int) (m : Int) (k : Int) h Q := by
  unfold F.spateref6_behind
  have e : ∀ b : Bool, (b = true ↔ dist n m k < dist n a k) → Q b h := fun b hb => by
    have : b = decide (dist n m k < dist n a k) := by rw [Bool.eq_iff_iff]; simpa using hb
    rw [this]; exact K
  refine ⟨fun g => ⟨fun g2 => e _ ?_, fun g2 => e _ ?_⟩, fun g => ⟨fun g2 => e _ ?_, fun g2 => e _ ?_⟩⟩ <;> simp only [decide_eq_true_eq, decide_eq_false_iff_not] at * <;> unfold dist <;> split <;> split <;> constructor <;> intro h1 <;> (first | omega | (exfalso; omega) | (cases h1) | trivial)
theorem next_dist {n a k e : Nat} (ha : a < n) (hk : k < n) (he : e < n) (hke : k ≠ e) (hd : dist n a k ≤ dist n a e) : dist n a ((k + 1) % n) ≤ dist n a e ∧ (a ≠ e → a ≠ (k + 1) % n) := by
  have hnx : (k + 1) % n = if k + 1 = n then 0 else k + 1 := by
    split
    · rename_i h; rw [h, Nat.mod_self]
    · exact Nat.mod_eq_of_lt (by omega)
  rw [hnx]
  unfold dist at *
  split at hd <;> split at hd <;> split <;> (refine ⟨?_, fun _ => by omega⟩) <;> (repeat' split) <;> omega
theorem shift_spec {n : Nat} {rs es : Sl} {x : Int} {Q : Int → Bool → H → Prop} : ∀ (f : Nat) (h : H) (T : Tb Int) (a k e : Nat) (R0 R : List (Pl Int)), TD h n rs es T → T.row = R0.set a (emptP 0) → (∀ p ∈ R0, p.is_ ≤ 1) → shiftM 0 f R0 a k = some R → a < R0.length → k < R0.length → Empty R0 e → a ≠ e → a ≠ k → dist R0.length a k ≤ dist R0.length a e →
    (∀ h', TD h' n rs es { T with row := R } → Stp h n rs es h' rs es → Q x true h') → F.spateref6_Table_Drop.l1 Q f (some ⟨n, 0, none⟩) (a : Int) x (k : Int) h
  | 0, h, T, a, k, e, R0, R, t, hr, h01, hs, ha, hk, he, hae, hak, hd, kk => by cases hs
  | f + 1, h, T, a, k, e, R0, R, t, hr, h01, hs, ha, hk, he, hae, hak, hd, kk => by
    unfold F.spateref6_Table_Drop.l1
    unfold shiftM at hs
    obtain ⟨p, hp⟩ : ∃ p, R0[k]? = some p := ⟨_, List.getElem?_eq_getElem hk⟩
    rw [hp] at hs
    simp only at hs
    simp only [nn_some, add_lit, Nat.zero_add]
    have hbr := t.br
    have hlen : T.row.length = R0.length := by rw [hr]; simp
    have hpt : T.row[k]? = some p := by rw [hr, List.getElem?_set_ne hak]; exact hp
    have hel := he.lt
    rw [ldL_iff t.c0]
    obtain ⟨b, q1, q2⟩ := t.row_at hpt
    have c0 := q2 0 _ rfl
    have c2 := q2 2 _ rfl
    refine idxA_of q1 (by rw [t.rlen, hlen]; exact hk) rfl ?_
    rw [ldB_iff c0]
    simp only [beq_iff_eq, beq_eq_false_iff_ne]
    by_cases h0 : p.is_ = 0
    · rw [if_pos h0] at hs
      cases hs
      refine ⟨fun g => absurd g (by omega), fun _ => ?_⟩
      refine kk h ?_ (.refl _ _ _ _)
      rw [← hr]; exact t
    · have hke : k ≠ e := fun hh => by
        obtain ⟨q, g1, g2⟩ := he
        rw [← hh, hp] at g1; cases g1; exact h0 g2
      rw [if_neg h0] at hs
      have h1p : p.is_ = 1 := by have := h01 p (List.mem_of_getElem? hp); omega
      refine ⟨fun _ => ?_, fun g => absurd h1p g⟩
      rw [ldL_iff t.c0, ldL_iff t.c0]
      refine idxA_of q1 (by rw [t.rlen, hlen]; exact hk) rfl ?_
      rw [ldS_iff c2]
      refine home_spec (R := T.row) t.rlen (by omega) hbr (t.kr k p hpt) ?_
      have hhm : homeM T.row p.key = homeM R0 p.key := by unfold homeM; rw [hlen]
      rw [hhm]
      have hh := home_lt (R := R0) (key := p.key) (by omega)
      obtain ⟨nd1, nd2⟩ := next_dist ha hk hel hke hd
      refine behind_spec (n := R0.length) ha hh hk hak ?_
      simp only [Bool.not_eq_true', decide_eq_false_iff_not, Bool.not_eq_false', decide_eq_true_eq]
      by_cases hdd : dist R0.length (homeM R0 p.key) k ≥ dist R0.length a k
      · rw [if_pos hdd] at hs
        refine ⟨fun _ => ?_, fun g => absurd g (by omega)⟩
        rw [ldL_iff t.c0, ldL_iff t.c0]
        refine idxA_of q1 (by rw [t.rlen, hlen]; exact hk) rfl ?_
        refine ⟨⟨(p.is_ == 1), (p.is_ != 0 && p.is_ != 1), p.key, p.value⟩, q2, ?_⟩
        refine idxA_of q1 (by rw [t.rlen, hlen]; exact ha) rfl ?_
        refine t.set_row (p := p) q1 (by rw [hlen]; exact ha) (t.kr k p hpt) fun h2 t2 s2 => ?_
        rw [ldL_iff t2.c0]
        refine idxA_of q1 (by rw [t.rlen, hlen]; exact hk) rfl ?_
        refine t2.set_row (p := emptP 0) (i := k) q1 (by simp; omega) (by show (0 : Nat) ≤ _; decide) fun h3 t3 s3 => ?_
        unfold F.spateref6_Table_Drop.j2
        simp only [nn_some, add_lit, Nat.zero_add]
        rw [ldL_iff t3.c0, t3.rlen]
        simp only [List.length_set, hlen]
        refine ⟨by omega, ?_⟩
        rw [next_tmod hk (by omega)]
        obtain ⟨md1, md2⟩ := next_dist hk hk hel hke (by unfold dist; split <;> split <;> omega)
        refine shift_spec f h3 _ k ((k + 1) % R0.length) e (R0.set a p) R t3 (by show (T.row.set a p).set k (emptP 0) = _; rw [hr, List.set_set]) (fun q hq => ?_) hs (by simpa using hk) (by simpa using Nat.mod_lt _ (by omega)) ?_ hke (md2 hke) (by simpa using md1) fun h' t' s' => kk h' t' (s2.trans (s3.trans s'))
        · rcases List.mem_or_eq_of_mem_set hq with hq | rfl
          · exact h01 q hq
          · omega
        · obtain ⟨q, g1, g2⟩ := he
          exact ⟨q, by rw [List.getElem?_set_ne hae]; exact g1, g2⟩
      · rw [if_neg hdd] at hs
        refine ⟨fun g => absurd g (by omega), fun _ => ?_⟩
        unfold F.spateref6_Table_Drop.j2
        simp only [nn_some, add_lit, Nat.zero_add]
        rw [ldL_iff t.c0, t.rlen, hlen]
        refine ⟨by omega, ?_⟩
        rw [next_tmod hk (by omega)]
        exact shift_spec f h T a ((k + 1) % R0.length) e R0 R t hr h01 hs ha (Nat.mod_lt _ (by omega)) he hae (nd2 hae) nd1 kk
end Go.Proofs.Ytkedkajdiclmjaa.V.D
