/- merge.Rows, walked; no condition. -/
import Derived.Test.YtidpbnbjpglhfaaMr
namespace Go.Proofs.Ytidpbnbjpglhfaa.V
open Go
set_option linter.unusedVariables false
set_option linter.unusedSimpArgs false
abbrev cS8 (s : Sl) : List Value := [s.enc]
theorem cS8_len (s : Sl) : (cS8 s).length = 1 := rfl
section
variable {h0 hk h h' : H} {n : Nat} {s : Sl} {G : List Fr}
/-- The fronts' slice is another, told by its variable. -/
theorem FS.put {hk2 : H} {s' : Sl} {G' : List Fr} {K : H → Prop} (v : FS h0 hk h n s G) (w : Owns h' s' tn_merge_front 2 ((G'.map (·.f)).flatMap cF)) (b : Blk h' n #[s.enc] tn_merge_fronts) (e : Ext h0 h') (m : Mine h0 s') (hr : ∀ f ∈ G', f.R ≠ [] → Reads h0 f.f.rows 7 (f.R.flatMap cW)) (kp : Keep hk2 h')
    (k : ∀ h2, FS h0 hk2 h2 n s' G' → Only (· = n) h' h2 → K h2) : stH h' ⟨n, 0, none⟩ [s'.enc] K := by
  refine stH_of b (by simp) fun h2 b2 o2 s2 => k h2 ⟨?_, w.only o2 fun y hy hf => own_ne w b (by decide) (by rw [hy, hf]), m, v.lo, e.step o2 fun y hy hf => by have := v.lo; omega, hr, kp.blk o2 b (.inr rfl)⟩ o2
  rw [writeA_all (by simp)] at b2; exact b2
theorem FS.re (v : FS h0 hk h n s G) : FS h0 h h n s G := ⟨v.var, v.own, v.mine, v.lo, v.ext, v.rows, .refl _⟩
theorem root_row (v : FS h0 hk h n s G) (hG : 0 < G.length) {x : Rw8} {t : List Rw8} (hx : (g G 0).R = x :: t) {K : Rw8 → Prop} (k : K x) : idxA (g G 0).f.rows 0 7 fun a => ld_S_api_Row h a K := by
  have rd := v.rows _ (List.mem_of_getElem? (g_mem hG)) (by rw [hx]; simp)
  have rd' := rd.only v.ext fun _ _ f => f
  rw [hx] at rd'
  obtain ⟨p, p1, p2, p3⟩ := rd_at cW_len (by omega) rd' (i := 0) (x := x) rfl
  have hl := rd_len cW_len (by omega) rd'
  exact idxR_of (i := 0) p1 (by rw [hl]; simp) rfl ⟨x, p3, k⟩
theorem Rows_main {n : Nat} {most : Int} {All : List Rw8} {Q : Sl → H → Prop} (hA : All.length < 100000)
    (k : ∀ r h', Owns h' r tn_api_Row 7 ((All.take most.toNat).flatMap cW) → Mine h0 r → Ext h0 h' → Q r h') : ∀ (d : Nat) (h : H) (s : Sl) (G : List Fr) (Rem : List (List Rw8)) (r : Sl) (out : List Rw8), (mR Rem).length < d → FS h0 h h n s G → G.length < 100000 → Heap G → GR G Rem →
    Owns h r tn_api_Row 7 (out.flatMap cW) → Mine h0 r → out ++ mR Rem = All → out.length ≤ most.toNat → F.merge_Rows.l2 Q d most ⟨n, 0, none⟩ r h := by
  intro d
  induction d with
  | zero => intro h s G Rem r out hm; omega
  | succ d ih =>
    intro h s G Rem r out hm v hGl hp gr w m hall hout
    have hl := own_len cF_len (by omega) v.own
    rw [List.length_map] at hl
    have hlr := own_len cW_len (by omega) w
    have hol : out.length ≤ All.length := by rw [← hall]; simp
    unfold F.merge_Rows.l2
    refine v.ldv ?_
    simp only [decide_eq_true_eq, decide_eq_false_iff_not]
    rw [hl]
    refine ⟨fun gg => ?_, fun gg => ?_⟩
    · have hG : 0 < G.length := by omega
      unfold F.merge_Rows.j4
      refine ⟨fun g2 => ?_, fun g2 => ?_⟩
      · have hlt : out.length < most.toNat := by rw [hlr] at g2; simp at g2; omega
        obtain ⟨kk, x, t, h1, h2, h3, h4⟩ := gr.pick hG hp
        have hkl := (List.getElem?_eq_some_iff.1 h2).1
        unfold F.merge_Rows.j3
        have c0 : ∀ {hh : H} {a : Addr} {y : S_merge_front}, Cells hh a (cF y) → cellH hh (a.add 0) = some y.rows.enc := fun c => c 0 _ rfl
        have q0 : (0 : Int) = ((0 : Nat) : Int) := rfl
        refine v.ldv ?_
        conv in idxA s 0 2 => rw [q0]
        refine v.at hG fun a1 d1 => (ldL_iff (c0 d1)).2 (root_row v hG h3 ?_)
        refine newL_of fun m1 h5 hm1 b5 e5 s5 => ?_
        have r5 : Reads h5 ⟨some ⟨m1, 0, none⟩, 1, 1⟩ 7 ([x].flatMap cW) := blk_reads (by simpa using b5) rfl
        refine app_list (L := out) (M := [x]) cW_len (by omega) el_Slapi_Row (w.ext e5) r5 (fun x => ones_S_api_Row x) (by simp only [List.length_singleton]; omega) fun r6 h6 w6 o6 n6 => ?_
        have hs5 := e5.size
        have m6 : Mine h0 r6 := fun y hy => by
          rcases n6 with n6 | ⟨b', n6, n7⟩
          · exact m y (by rw [← n6]; exact hy)
          · rw [n6] at hy; cases hy; have := v.ext.size; omega
        have e6 : Ext h0 h6 := (v.ext.trans e5).mine m o6
        have v5 := v.e e5
        have v6 : FS h0 h6 h6 n s G := ⟨o6.block v5.var (fun hb => own_ne (w.ext e5) v5.var (by decide) hb), v5.own.only o6 (fun y hy hb => by
          obtain ⟨_, ⟨q1, q2, q3⟩ | ⟨b', c', q1, q2, _⟩⟩ := v5.own
          · simp [Sl.blk, q1] at hy
          · simp [Sl.blk, q1] at hy
            subst hy
            exact own_ne (w.ext e5) q2 (by decide) hb), v.mine, v.lo, e6, v.rows, .refl _⟩
        refine v6.ldv (v6.ldv ?_)
        conv in idxA s 0 2 => rw [q0]
        refine v6.at hG fun a2 d2 => (ldL_iff (c0 d2)).2 ?_
        have hmem := List.mem_of_getElem? (g_mem hG)
        have rd0 := v.rows _ hmem (by rw [h3]; simp)
        have hrl := rd_len cW_len (by omega) rd0
        have hcap := gr.cap _ hmem
        refine cutL_of (lo := 1) (hi := (g G 0).f.rows.len) rfl rfl (by rw [hrl, h3]; simp) hcap ?_
        have rdc := cut_reads (lo := 1) (hi := (g G 0).f.rows.len) cW_len (by omega) rd0 (by rw [hrl, h3]; simp) (by rw [hrl]; exact Nat.le_refl _) hcap
        have hdrop : (((g G 0).R.drop 1).take ((g G 0).f.rows.len - 1)) = t := by
          rw [h3, hrl, h3]; simp
        rw [hdrop] at rdc
        have hcl : (slcut (g G 0).f.rows 1 (g G 0).f.rows.len 7).len = t.length := rd_len cW_len (by omega) rdc
        have hcc : (slcut (g G 0).f.rows 1 (g G 0).f.rows.len 7).len ≤ (slcut (g G 0).f.rows 1 (g G 0).f.rows.len 7).cap := by unfold slcut; simp only; omega
        generalize hsc : slcut (g G 0).f.rows 1 (g G 0).f.rows.len 7 = sc at rdc hcl hcc
        -- the root's rows are one less
        obtain ⟨b, p1, p2⟩ := own_at cF_len (by omega) v6.own (i := 0) (x := (g G 0).f) (by rw [List.getElem?_map, g_mem hG]; rfl)
        conv in idxA s 0 2 => rw [q0]
        refine idxA_of (i := 0) p1 (by rw [hl]; exact hG) rfl ?_
        rw [show ((⟨b, 0 * 2, none⟩ : Addr).add 0) = ⟨b, 0, none⟩ from by rw [add_lit]]
        have hfl : ((G.map (·.f)).flatMap cF).length = G.length * 2 := by rw [flat_len _ 2 cF_len]; simp
        refine own_set (o := 0) v6.own p1 (by rw [hfl]; simp; omega) fun h7 w7 o7 s7 => ?_
        have hset : ((G.map (·.f)).flatMap cF).take 0 ++ [sc.enc] ++ ((G.map (·.f)).flatMap cF).drop (0 + [sc.enc].length) = (((G.set 0 ⟨⟨sc, (kk : Int)⟩, t⟩).map (·.f)).flatMap cF) := by
          obtain ⟨a, G1, rfl⟩ : ∃ a G1, G = a :: G1 := by
            cases G with
            | nil => simp at hG
            | cons a G1 => exact ⟨a, G1, rfl⟩
          have h1' : a.f.list = (kk : Int) := h1
          simp [S_merge_front.cells, h1']
        rw [hset] at w7
        have hgs : ∀ c, g (G.set 0 ⟨⟨sc, (kk : Int)⟩, t⟩) c = if 0 = c then ⟨⟨sc, (kk : Int)⟩, t⟩ else g G c := fun c => g_set hG
        have v7 : FS h0 h7 h7 n s (G.set 0 ⟨⟨sc, (kk : Int)⟩, t⟩) := ⟨o7.block v6.var fun hb => own_ne v6.own v6.var (by decide) hb, w7, v.mine, v.lo, e6.mine v.mine o7, fun f hf hR => by
          rcases List.mem_or_eq_of_mem_set hf with hf | rfl
          · exact v.rows f hf hR
          · exact rdc, .refl _⟩
        have w6' : Owns h7 r6 tn_api_Row 7 ((out ++ [x]).flatMap cW) := w6.only o7 fun y hy hb => by
          obtain ⟨_, ⟨q1, q2, q3⟩ | ⟨b', c', q1, q2, _⟩⟩ := w6
          · simp [Sl.blk, q1] at hy
          · simp [Sl.blk, q1] at hy
            subst hy
            exact own_ne v6.own q2 (by decide) hb
        have hlen : (G.set 0 ⟨⟨sc, (kk : Int)⟩, t⟩).length = G.length := by simp
        refine v7.ldv ?_
        conv in idxA s 0 2 => rw [q0]
        refine v7.at (by rw [hlen]; exact hG) fun a3 d3 => ?_
        rw [hgs, if_pos rfl] at d3
        refine (ldL_iff (c0 d3)).2 ?_
        rw [hcl]
        have hrem : (mR (Rem.set kk t)).length < d := by rw [h4] at hm; simp at hm; omega
        have hall' : (out ++ [x]) ++ mR (Rem.set kk t) = All := by rw [List.append_assoc, List.singleton_append, ← h4]; exact hall
        have hp' : ∀ c, 0 < c → c < (G.set 0 ⟨⟨sc, (kk : Int)⟩, t⟩).length → (c - 1) / 2 ≠ 0 → ltF (g (G.set 0 ⟨⟨sc, (kk : Int)⟩, t⟩) c) (g (G.set 0 ⟨⟨sc, (kk : Int)⟩, t⟩) ((c - 1) / 2)) = false := fun c c0 cn cp => by
          rw [hgs, hgs, if_neg (by omega), if_neg (by omega)]
          exact hp c c0 (by rw [hlen] at cn; exact cn) (by omega)
        refine ⟨fun g3 => ?_, fun g3 => ?_⟩
        · have ht : t = [] := List.eq_nil_of_length_eq_zero (by simpa using g3)
          subst ht
          refine Pop_spec v7 (by rw [hlen]; exact hG) (by rw [hlen]; omega) hp' (fun j j0 jn => ?_) fun u h8 s8 G8 v8 p8 hp8 => ?_
          · rw [hgs, if_neg (by omega)]
            exact gr.ne _ (List.mem_of_getElem? (g_mem (by rw [hlen] at jn; exact jn)))
          · rw [hgs, if_pos rfl] at p8
            have gr8 := gr.gone hG h1 h2 p8
            have hl8 : G8.length + 1 = G.length := by have := p8.length_eq; simp at this; omega
            refine ih h8 s8 G8 (Rem.set kk []) r6 (out ++ [x]) hrem v8.re (by omega) hp8 gr8 (v8.kp.w w6' (by decide) (by decide)) m6 hall' (by simp; omega)
        · have ht : t ≠ [] := fun e => by subst e; simp at g3
          have gr7 := gr.turn hG h1 h2 ht hcc
          refine Fix_spec v7 (by rw [hlen]; exact hG) (by rw [hlen]; omega) gr7.ne hp' fun h8 G8 v8 p8 hp8 => ?_
          have hl8 : G8.length = G.length := by have := p8.length_eq; simp at this; omega
          refine ih h8 s G8 (Rem.set kk t) r6 (out ++ [x]) hrem v8.re (by omega) hp8 (gr7.perm p8) (v8.kp.w w6' (by decide) (by decide)) m6 hall' (by simp; omega)
      · have : out.length = most.toNat := by rw [hlr] at g2; simp at g2; omega
        refine k r h ?_ m v.ext
        rw [← hall, ← this, List.take_left']
        · exact w
        · rfl
    · have hG : G = [] := List.eq_nil_of_length_eq_zero (by omega)
      subst hG
      have hnil := gr.nil
      unfold F.merge_Rows.j4
      refine ⟨fun g2 => (by cases g2), fun _ => k r h ?_ m v.ext⟩
      rw [hnil, List.append_nil] at hall
      rw [← hall, List.take_of_length_le hout]; exact w
end
end Go.Proofs.Ytidpbnbjpglhfaa.V
