/- The law MergeLong; no condition. -/
import Derived.Test.YtidpbnbjpglhfaaMv
namespace Go.Proofs.Ytidpbnbjpglhfaa.V
open Go
set_option linter.unusedVariables false
set_option linter.unusedSimpArgs false
theorem push8 {α : Type} {f : α → List Value} {kk : Nat} {t e : TypeId} {bytes : Nat} {z : Value} {h0 h : H} {s : Sl} {D : List α} {x : α} {K : Sl → H → Prop} (el : El PP t e kk bytes z) (hf : ∀ x, (f x).length = kk) (hk : 0 < kk) (one : ∀ x, ∀ v ∈ f x, v.oneCell' = true)
    (e0 : Ext h0 h) (w : Owns h s e kk (D.flatMap f)) (m : Mine h0 s) (hl : (D.length + 1 + (D.length + 1) / 4 + 256) * bytes ≤ 281474976710656)
    (k : ∀ s' h', Owns h' s' e kk ((D ++ [x]).flatMap f) → Mine h0 s' → Ext h0 h' → Only (fun b => s.blk = some b) h h' → K s' h') :
    newL h (f x).toArray e 1 fun s7 h6 => runL PP (Builtin.append_ #[t, t] t #[s.enc, s7.enc]) h6 fun s9 h8 => K s9 h8 := by
  refine newL_of fun n6 h6 hn6 b6 e6 sz6 => ?_
  have r6 : Reads h6 ⟨some ⟨n6, 0, none⟩, 1, 1⟩ kk ([x].flatMap f) := blk_reads (by simpa using b6) (by simp [hf])
  refine app_list (L := D) (M := [x]) hf hk el (w.ext e6) r6 one (by simpa using hl) fun r7 h7 q1 q2 q3 => ?_
  refine k r7 h7 q1 (fun b hb => ?_) ((e0.trans e6).mine m q2) ((e6.only (S := fun b => s.blk = some b)).trans q2 fun _ _ e => e)
  rcases q3 with q3 | ⟨b', q3, q4⟩
  · exact m b (by rw [← q3]; exact hb)
  · rw [q3] at hb; cases hb
    have := e0.size; have := e6.size; omega
theorem own_typ {h h' : H} {s r : Sl} {e e' : TypeId} {k k' : Nat} {cs ds : List Value} (w : Owns h r e k cs) (o : Only (fun b => s.blk = some b) h h') (ws : Owns h s e' k' ds) (he : e ≠ e') : Owns h' r e k cs := w.only o fun y hy hb => by
  obtain ⟨_, ⟨q1, q2, q3⟩ | ⟨b', c', q1, q2, _⟩⟩ := w
  · simp [Sl.blk, q1] at hy
  · simp [Sl.blk, q1] at hy
    subst hy
    exact own_ne ws q2 (fun e => he e.symm) hb
theorem flat_le {n : Nat} : ∀ {LL : List (List Int)}, (∀ A ∈ LL, A.length ≤ n) → LL.flatten.length ≤ LL.length * n
  | [], _ => by simp
  | A :: LL, h => by
    have h1 := h A (by simp)
    have h2 := flat_le (LL := LL) fun B hB => h B (by simp [hB])
    rw [List.flatten_cons, List.length_append, List.length_cons, Nat.add_mul]; omega
abbrev iL (L n k : Nat) : List Int := (PG L n k).map fun (i : Nat) => (i : Int)
structure ML (h1 h : H) (L n k : Nat) (a b : Sl) (sA sB : List Sl) : Prop where
  ext : Ext h1 h
  ta : Owns h a tn_Slapi_Row 1 (sA.flatMap cS8)
  tb : Owns h b tn_Slint 1 (sB.flatMap cS8)
  ma : Mine h1 a
  mb : Mine h1 b
  la : sA.length = k
  lb : sB.length = k
  rows : ∀ (i : Nat) s, sA[i]? = some s → Owns h s tn_api_Row 7 (((PG L n i).map (rowK i)).flatMap cW)
  ints : ∀ (i : Nat) s, sB[i]? = some s → Owns h s 3 1 ((iL L n i).flatMap cI)
theorem ML.e {h1 h h' : H} {L n k : Nat} {a b : Sl} {sA sB : List Sl} (v : ML h1 h L n k a b sA sB) (e : Ext h h') : ML h1 h' L n k a b sA sB :=
  ⟨v.ext.trans e, v.ta.ext e, v.tb.ext e, v.ma, v.mb, v.la, v.lb, fun i s hs => (v.rows i s hs).ext e, fun i s hs => (v.ints i s hs).ext e⟩
theorem cap_of {h : H} {s : Sl} {e : TypeId} {k : Nat} {cs : List Value} (w : Owns h s e k cs) : s.len ≤ s.cap := by
  obtain ⟨_, ⟨q1, q2, q3⟩ | ⟨b', c', q1, q2, q3, q4, _⟩⟩ := w
  · omega
  · exact q4
theorem MergeLong_spec {h : H} {p0 p1 p2 : Int} {Q : Bool → H → Prop} (k : ∀ h', Ext h h' → Q true h') : F.spatelaw8_MergeLong p0 p1 p2 h Q := by
  unfold F.spatelaw8_MergeLong
  refine known8_spec fun h1 e1 => ⟨fun g => by simp at g, fun _ => ?_⟩
  refine within8_spec (by omega) (by omega) fun r hr => within8_spec (by omega) (by omega) fun n hn => ?_
  obtain ⟨L, hL, hLe⟩ : ∃ L : Nat, 0 < L ∧ IntKind.wrap .i64 (1 + (r : Int)) = (L : Int) := ⟨r + 1, by omega, by rw [w64 (by omega) (by omega)]; omega⟩
  have hLb : L ≤ 50 := by rw [w64 (by omega) (by omega)] at hLe; omega
  rw [hLe]
  refine ⟨L + 1, ?_⟩
  -- the comparison
  have tail : ∀ (h2 : H) (ra rb : Sl) (m : Nat), m ≤ n → Ext h1 h2 → Owns h2 ra tn_api_Row 7 (((List.range m).map (rowA L)).flatMap cW) → Owns h2 rb 3 1 (((List.range n).map fun (i : Nat) => (i : Int)).flatMap cI) → F.spatelaw8_MergeLong.j3 Q (L : Int) (n : Int) ra rb h2 := by
    intro h2 ra rb m hm e2 wa wb
    have lA := own_len cW_len (by omega) wa
    have lB := own_len cI_len (by omega) wb
    simp only [List.length_map, List.length_range] at lA lB
    unfold F.spatelaw8_MergeLong.j3
    refine ⟨m + 1, ?_⟩
    have last : ∀ (d i : Nat), i ≤ n → n - i < d → F.spatelaw8_MergeLong.l7 Q d (n : Int) rb (i : Int) h2 := by
      intro d
      induction d with
      | zero => intro i _ hd; omega
      | succ d ih =>
        intro i hi hd
        unfold F.spatelaw8_MergeLong.l7
        simp only [decide_eq_true_eq, decide_eq_false_iff_not]
        refine ⟨fun gg => ?_, fun gg => k h2 (e1.trans e2)⟩
        obtain ⟨bb, q1, q2⟩ := own_at cI_len (by omega) wb (i := i) (x := (i : Int)) (by rw [List.getElem?_map, List.getElem?_range (by omega)]; rfl)
        refine idxA_of (i := i) q1 (by omega) rfl ((ldI_iff (n := (i : Int)) q2.one).2 ⟨fun g2 => by simp at g2, fun _ => ?_⟩)
        rw [w64s (by omega)]
        exact ih (i + 1) (by omega) (by omega)
    have rows : ∀ (d i : Nat), i ≤ m → m - i < d → F.spatelaw8_MergeLong.l4 Q d (L : Int) (n : Int) ra rb (i : Int) h2 := by
      intro d
      induction d with
      | zero => intro i _ hd; omega
      | succ d ih =>
        intro i hi hd
        unfold F.spatelaw8_MergeLong.l4
        simp only [decide_eq_true_eq, decide_eq_false_iff_not]
        rw [lA]
        refine ⟨fun gg => ?_, fun gg => ⟨n + 1, last _ 0 (by omega) (by omega)⟩⟩
        obtain ⟨bb, q1, q2⟩ := own_at cW_len (by omega) wa (i := i) (x := rowA L i) (by rw [List.getElem?_map, List.getElem?_range (by omega)]; rfl)
        have c2 : cellH h2 (((⟨bb, i * 7, none⟩ : Addr).add 0).add 2) = some (.int .i64 (i : Int)) := by rw [add0]; exact q2 2 _ rfl
        have c3 : cellH h2 (((⟨bb, i * 7, none⟩ : Addr).add 3).add 0) = some (.int .i64 (((i % L : Nat) : Int) + 1)) := by rw [add0]; exact q2 3 _ rfl
        refine idxA_of (i := i) q1 (by omega) rfl ((ldI_iff c2).2 ⟨fun g2 => by simp at g2, fun _ => ?_⟩)
        refine idxA_of (i := i) q1 (by omega) rfl ((ldI_iff c3).2 ⟨by omega, ?_⟩)
        have htm : Int.tmod (i : Int) (L : Int) = ((i % L : Nat) : Int) := by rw [Int.tmod_eq_emod_of_nonneg (by omega)]; omega
        have hml := Nat.mod_lt i hL
        rw [htm, w64 (by omega) (by omega)]
        unfold F.spatelaw8_MergeLong.j6 F.spatelaw8_MergeLong.j5
        refine ⟨fun g => by simp at g, fun _ => ?_⟩
        rw [w64s (by omega)]
        exact ih (i + 1) (by omega) (by omega)
    exact rows _ 0 (by omega) (by omega)
  have key : ∀ (d kk : Nat) (h' : H) (a b : Sl) (sA sB : List Sl), kk ≤ L → L - kk < d → ML h1 h' L n kk a b sA sB → F.spatelaw8_MergeLong.l1 Q d (L : Int) (n : Int) p2 a b (kk : Int) h' := by
    intro d
    induction d with
    | zero => intro kk h' a b sA sB _ hd; omega
    | succ d ih =>
      intro kk h' a b sA sB hk hd v
      unfold F.spatelaw8_MergeLong.l1
      simp only [decide_eq_true_eq, decide_eq_false_iff_not]
      refine ⟨fun gg => ⟨n + 1, ?_⟩, fun gg => ?_⟩
      · -- one list of rows, one of numbers
        have inner : ∀ (d2 i : Nat) (h2 : H) (l m : Sl) (pre : List Nat), n - i < d2 → i < n + L → pre.length ≤ i → pre ++ PG L n i = PG L n kk → Ext h' h2 → Owns h2 l tn_api_Row 7 ((pre.map (rowK kk)).flatMap cW) → Owns h2 m 3 1 ((pre.map fun (i : Nat) => (i : Int)).flatMap cI) → Mine h' l → Mine h' m →
            F.spatelaw8_MergeLong.l2 Q (F.spatelaw8_MergeLong.l1 Q d) d2 (L : Int) (n : Int) p2 a b (kk : Int) l m (i : Int) h2 := by
          intro d2
          induction d2 with
          | zero => intro i h2 l m pre hd2; omega
          | succ d2 ih2 =>
            intro i h2 l m pre hd2 hi hpl hpre e2 wl wm ml mm
            unfold F.spatelaw8_MergeLong.l2
            simp only [decide_eq_true_eq, decide_eq_false_iff_not]
            refine ⟨fun g2 => ?_, fun g2 => ?_⟩
            · rw [w64 (n := (kk : Int) + 1) (by omega) (by omega)]
              refine push8 (f := cW) (x := rowK kk i) el_Slapi_Row cW_len (by omega) (fun x => ones_S_api_Row x) e2 wl ml (by simp only [List.length_map]; omega) fun l3 h3 w3 m3 e3 o3 => ?_
              have wm3 := own_typ wm o3 wl (by decide)
              refine push8 (f := cI) (x := (i : Int)) el_Slint cI_len (by omega) (fun x => one1 rfl) e3 wm3 mm (by simp only [List.length_map]; omega) fun m4 h4 w4 mm4 e4 o4 => ?_
              have wl4 := own_typ w3 o4 wm3 (by decide)
              rw [w64 (n := (i : Int) + (L : Int)) (by omega) (by omega), show (i : Int) + (L : Int) = ((i + L : Nat) : Int) from by omega]
              rw [PG_cons hL (by omega)] at hpre
              exact ih2 (i + L) h4 l3 m4 (pre ++ [i]) (by omega) (by omega) (by simp; omega) (by rw [List.append_assoc]; exact hpre) e4 (by rw [List.map_append]; exact wl4) (by rw [List.map_append]; exact w4) m3 mm4
            · rw [PG_nil (by omega), List.append_nil] at hpre
              rw [hpre] at wl wm
              have v2 := v.e e2
              have he2 := v.ext.size
              refine push8 (f := cS8) (x := l) el_SlSlapi_Row cS8_len (by omega) (fun x => one1 rfl) v2.ext v2.ta v2.ma (by rw [v2.la]; omega) fun a3 h3 w3 m3 e3 o3 => ?_
              have b3 := own_typ v2.tb o3 v2.ta (by decide)
              refine push8 (f := cS8) (x := m) el_SlSlint cS8_len (by omega) (fun x => one1 rfl) e3 b3 v2.mb (by rw [v2.lb]; omega) fun b4 h4 w4 m4 e4 o4 => ?_
              rw [w64s (by omega)]
              refine ih (kk + 1) h4 a3 b4 (sA ++ [l]) (sB ++ [m]) (by omega) (by omega) ⟨e4, own_typ w3 o4 b3 (by decide), w4, m3, m4, by simp [v.la], by simp [v.lb], fun i s hs => ?_, fun i s hs => ?_⟩
              · by_cases hi2 : i < sA.length
                · rw [List.getElem?_append_left hi2] at hs
                  exact own_typ (own_typ (v2.rows i s hs) o3 v2.ta (by decide)) o4 b3 (by decide)
                · have := (List.getElem?_eq_some_iff.1 hs).1
                  simp at this
                  have : i = sA.length := by omega
                  subst this
                  simp at hs; subst hs
                  rw [v.la]
                  exact own_typ (own_typ wl o3 v2.ta (by decide)) o4 b3 (by decide)
              · by_cases hi2 : i < sB.length
                · rw [List.getElem?_append_left hi2] at hs
                  exact own_typ (own_typ (v2.ints i s hs) o3 v2.ta (by decide)) o4 b3 (by decide)
                · have := (List.getElem?_eq_some_iff.1 hs).1
                  simp at this
                  have : i = sB.length := by omega
                  subst this
                  simp at hs; subst hs
                  rw [v.lb]
                  exact own_typ (own_typ wm o3 v2.ta (by decide)) o4 b3 (by decide)
        exact inner _ kk h' _ _ [] (by omega) (by omega) (by simp) (by simp) (.refl _) (by simpa using Owns.nil h' tn_api_Row 7) (by simpa using Owns.nil h' 3 1) (.nil _ _ _) (.nil _ _ _)
      · have hkL : kk = L := by omega
        subst hkL
        rw [w64 (n := (n : Int) + 2) (by omega) (by omega)]
        refine within8_spec (by omega) (by omega) fun q hq => ?_
        have hlen : (mR (Sb kk n 0 0)).length = n := by rw [mR_rows hL]; simp
        have tb : TB h' a sA (Sb kk n 0 0) := ⟨v.ta.reads, by rw [v.la]; simp [Sb], fun i s R hs hR => by
          have hi : i < kk := by have := (List.getElem?_eq_some_iff.1 hs).1; rw [v.la] at this; exact this
          rw [Sb_at hi, if_neg (by omega), Nat.zero_add] at hR
          cases hR
          exact ⟨(v.rows i s hs).reads, cap_of (v.rows i s hs)⟩⟩
        refine Rows_spec tb (by rw [v.la]; omega) (by omega) fun ra h2 wa ma e2 => ?_
        have v2 := v.e e2
        refine Lists_int_spec (LL := (List.range kk).map fun k => iL kk n k) (SL := sB) ⟨v2.tb.reads, cap_of v2.tb⟩ ⟨by rw [v.lb]; simp, fun i s A hs hA => ?_⟩ ?_ (by simp; omega) (fun bb hb => v2.tb.blk_lt hb) fun rb h3 wb e3 mb => ?_
        · have hi : i < kk := by have := (List.getElem?_eq_some_iff.1 hs).1; rw [v.lb] at this; exact this
          rw [List.getElem?_map, List.getElem?_range hi] at hA
          cases hA
          exact ⟨⟨(v2.ints i s hs).reads, cap_of (v2.ints i s hs)⟩, fun bb hb => (v2.ints i s hs).blk_lt hb⟩
        · have := flat_le (n := n) (LL := (List.range kk).map fun k => iL kk n k) (fun A hA => by
            obtain ⟨k, _, rfl⟩ := List.mem_map.1 hA
            rw [List.length_map]
            have := pg_len (n := n) hL (n - k) k
            unfold PG; omega)
          simp only [List.length_map, List.length_range] at this
          have : kk * n ≤ 50 * 5000 := Nat.mul_le_mul hLb (by omega)
          omega
        · rw [ints_all hL (by omega)] at wb
          rw [mR_rows hL, ← List.map_take, List.take_range, show ((q : Int)).toNat = q from rfl] at wa
          have lA := own_len cW_len (by omega) wa
          have lB := own_len cI_len (by omega) wb
          simp only [List.length_map, List.length_range] at lA lB
          refine min_of ?_
          have hmin : ((min q n : Nat) : Int) = (if (n : Int) < (q : Int) then (n : Int) else (q : Int)) := by split <;> omega
          rw [lA, lB, ← hmin]
          unfold F.spatelaw8_MergeLong.j8
          refine ⟨fun g => by simp at g, fun _ => ⟨fun g => by simp at g, fun _ => ?_⟩⟩
          exact tail h3 ra rb (min q n) (by omega) ((v.ext.trans e2).trans e3) (wa.ext e3) wb
  exact key _ 0 h1 _ _ [] [] (by omega) (by omega) ⟨.refl _, by simpa using Owns.nil h1 tn_Slapi_Row 1, by simpa using Owns.nil h1 tn_Slint 1, .nil _ _ _, .nil _ _ _, rfl, rfl, fun i s hs => by simp at hs, fun i s hs => by simp at hs⟩
end Go.Proofs.Ytidpbnbjpglhfaa.V
