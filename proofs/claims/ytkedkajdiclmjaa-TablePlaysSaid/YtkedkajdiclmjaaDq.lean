/- The document's table: All, as a fold of insertions; no condition. -/
import Derived.Test.YtkedkajdiclmjaaDo
namespace Go.Proofs.Ytkedkajdiclmjaa.V.D
open Go Go.Proofs.Ytkedkajdiclmjaa.V
set_option linter.unusedVariables false
set_option linter.unusedSimpArgs false

def gtB (a b : ByteArray) : Bool := !(Op.bytesLess a.toList b.toList || (a.toList == b.toList))
/-- Where a name goes, sought from behind. -/
def posL (N : List ByteArray) (k : ByteArray) : Nat → Nat
  | 0 => 0
  | j + 1 => match N[j]? with
    | none => j + 1
    | some y => if gtB y k = true then posL N k j else j + 1
theorem posL_le (N : List ByteArray) (k : ByteArray) : ∀ j, posL N k j ≤ j
  | 0 => Nat.le_refl _
  | j + 1 => by
    unfold posL
    split
    · exact Nat.le_refl _
    · split
      · exact Nat.le_succ_of_le (posL_le N k j)
      · exact Nat.le_refl _
section
variable {h0 : H} {sz : Sl} {Z : List (Pl Int)} {N : List ByteArray} {V : List Int} {Q : Sl → Sl → H → Prop} {C1 : Sl → Sl → Sl → Int → H → Prop} {i : Nat} {p : Pl Int}
theorem insert6 (hp : Z[i]? = some p) (hVN : V.length = N.length) (hN : N.length ≤ BIG) (hi : i ≤ 2 * BIG)
    (k : ∀ h' sn sv, A3 h0 h' sz Z sn (holeL N (posL N p.key N.length) p.key) sv (holeL V (posL N p.key N.length) p.value) → C1 sz sn sv ((i + 1 : Nat) : Int) h') :
    ∀ (f j : Nat) (h : H) (sn sv : Sl), A3 h0 h sz Z sn N sv V → j ≤ N.length → j < f → posL N p.key j = posL N p.key N.length →
      F.spateref6_Table_All.l6 Q C1 f sz sn sv (i : Int) (j : Int) h
  | 0, j, h, sn, sv, t, h1, hf, hpos => by omega
  | f + 1, j, h, sn, sv, t, h1, hf, hpos => by
    unfold F.spateref6_Table_All.l6
    have hN' := hN
    have hi' := hi
    simp only [BIG] at hN hi
    have ln : sn.len = N.length := own_len cT_len (by omega) t.n
    have lz : sz.len = Z.length := own_len cD_len (by omega) t.z
    simp only [decide_eq_true_eq, decide_eq_false_iff_not, gt_iff_lt]
    have fin : posL N p.key j = j → F.spateref6_Table_All.j8 Q C1 (F.spateref6_Table_All.l6 Q C1 f) sz sn sv (i : Int) (j : Int) false h := fun hj => by
      unfold F.spateref6_Table_All.j8
      refine ⟨fun g => (by cases g), fun _ => ?_⟩
      refine push_mine (f := cT) (k := 1) (⟨#[]⟩ : ByteArray) t.ext t.mn cT_len (by omega) elS t.n (fun x v hv => by simp only [cT, List.mem_singleton] at hv; subst hv; rfl) (by omega) fun r h2 o2 e2 m2 w2 _ => ?_
      have z2 := t.z.only w2 fun b hb hb' => (t.z.typ hb).ne (t.n.typ hb') (by decide) rfl
      have v2 := t.v.only w2 fun b hb hb' => (t.v.typ hb).ne (t.n.typ hb') (by decide) rfl
      refine push_mine (f := cI) (k := 1) (0 : Int) e2 t.mv cI_len (by omega) elI6 v2 (fun x v hv => by simp only [cI, List.mem_singleton] at hv; subst hv; rfl) (by omega) fun q h3 o3 e3 m3 w3 _ => ?_
      have z3 := z2.only w3 fun b hb hb' => (z2.typ hb).ne (v2.typ hb') (by decide) rfl
      have n3 := o2.only w3 fun b hb hb' => (o2.typ hb).ne (v2.typ hb') (by decide) rfl
      have lr : r.len = N.length + 1 := by rw [own_len cT_len (by omega) n3]; simp
      rw [lr, w64 (by omega) (by omega), show ((N.length + 1 : Nat) : Int) - 1 = (N.length : Int) from by omega]
      have hjj : j = posL N p.key N.length := hj.symm.trans hpos
      rw [← hjj] at k
      refine ⟨N.length + 1, shift9 hp h1 hVN hN' hi' (fun h' t' => k h' r q t') (N.length + 1) N.length h3 ⟨#[]⟩ 0 ⟨e3, z3, by rw [hole_end]; exact n3, by rw [← hVN, hole_end]; exact o3, t.mz, m2, m3⟩ h1 (Nat.le_refl _) (by omega)⟩
    refine ⟨fun g => ?_, fun g => fin (by rw [show j = 0 from by omega]; rfl)⟩
    obtain ⟨y, rfl⟩ : ∃ y, j = y + 1 := ⟨j - 1, by omega⟩
    obtain ⟨c, hc⟩ : ∃ c, N[y]? = some c := ⟨_, List.getElem?_eq_getElem (by omega)⟩
    obtain ⟨bn, n1, n2⟩ := own_at cT_len (by omega) t.n hc
    obtain ⟨bz, z1, z2⟩ := own_at cD_len (by omega) t.z hp
    have hil := (List.getElem?_eq_some_iff.1 hp).1
    rw [w64 (by omega) (by omega), show ((y + 1 : Nat) : Int) - 1 = (y : Int) from by omega]
    refine idxA_of n1 (by omega) rfl ?_
    rw [ldS_iff (by have := n2 0 _ rfl; simpa only [add_lit, Nat.add_zero] using this)]
    refine idxA_of z1 (by omega) rfl ?_
    rw [ldS_iff (z2 2 _ rfl)]
    show F.spateref6_Table_All.j8 Q C1 (F.spateref6_Table_All.l6 Q C1 f) sz sn sv (i : Int) ((y + 1 : Nat) : Int) (gtB c p.key) h
    by_cases hg : gtB c p.key = true
    · have hpy : posL N p.key (y + 1) = posL N p.key y := by
        conv => lhs; unfold posL
        rw [hc]; simp only [hg, if_true]
      rw [hg]
      unfold F.spateref6_Table_All.j8
      refine ⟨fun _ => ?_, fun g => by cases g⟩
      unfold F.spateref6_Table_All.j7
      rw [w64 (by omega) (by omega), show ((y + 1 : Nat) : Int) - 1 = (y : Int) from by omega]
      exact insert6 hp hVN hN' hi' k f y h sn sv t (by omega) (by omega) (hpy.symm.trans hpos)
    · have hg' : gtB c p.key = false := by simpa using hg
      rw [hg']
      exact fin (by unfold posL; rw [hc]; simp only [hg', Bool.false_eq_true, if_false])
end
end Go.Proofs.Ytkedkajdiclmjaa.V.D

namespace Go.Proofs.Ytkedkajdiclmjaa.V.D
open Go Go.Proofs.Ytkedkajdiclmjaa.V
set_option linter.unusedVariables false
set_option linter.unusedSimpArgs false

def ins1 (A : List ByteArray × List Int) (p : Pl Int) : List ByteArray × List Int := (holeL A.1 (posL A.1 p.key A.1.length) p.key, holeL A.2 (posL A.1 p.key A.1.length) p.value)
section
variable {h0 : H} {sz : Sl} {Z : List (Pl Int)} {Q : Sl → Sl → H → Prop} {G : List ByteArray × List Int}
theorem loop5 (hZ : Z.length ≤ BIG) (k : ∀ h' sn sv, A3 h0 h' sz Z sn G.1 sv G.2 → Q sn sv h') : ∀ (f i : Nat) (h : H) (sn sv : Sl) (A : List ByteArray × List Int), A3 h0 h sz Z sn A.1 sv A.2 → A.1.length = i → A.2.length = i → i ≤ Z.length → Z.length - i < f → (Z.drop i).foldl ins1 A = G →
      F.spateref6_Table_All.l5 Q f sz sn sv (i : Int) h
  | 0, i, h, sn, sv, A, t, a1, a2, hi, hf, hF => by omega
  | f + 1, i, h, sn, sv, A, t, a1, a2, hi, hf, hF => by
    unfold F.spateref6_Table_All.l5
    have hZ' := hZ
    simp only [BIG] at hZ
    have lz : sz.len = Z.length := own_len cD_len (by omega) t.z
    have ln : sn.len = A.1.length := own_len cT_len (by omega) t.n
    simp only [decide_eq_true_eq, decide_eq_false_iff_not, gt_iff_lt]
    refine ⟨fun g => ?_, fun g => ?_⟩
    · obtain ⟨p, hp⟩ : ∃ p, Z[i]? = some p := ⟨_, List.getElem?_eq_getElem (by omega)⟩
      have hd : Z.drop i = p :: Z.drop (i + 1) := by
        rw [List.drop_eq_getElem_cons (by omega), (List.getElem?_eq_some_iff.1 hp).2]
      rw [hd, List.foldl_cons] at hF
      have hle := posL_le A.1 p.key A.1.length
      rw [ln]
      refine ⟨A.1.length + 1, insert6 hp (by omega) (by simp only [BIG]; omega) (by simp only [BIG]; omega) (fun h' sn' sv' t' => ?_) (A.1.length + 1) A.1.length h sn sv t (Nat.le_refl _) (by omega) rfl⟩
      exact loop5 hZ' k f (i + 1) h' sn' sv' (ins1 A p) t' (by unfold ins1; rw [hole_len hle]; omega) (by unfold ins1; rw [hole_len (by omega)]; omega) (by omega) (by omega) hF
    · rw [List.drop_eq_nil_of_le (by omega)] at hF
      cases hF
      exact k h sn sv t
end
/-- What the document's All tells. -/
theorem All_fold {h : H} {m : Nat} {rd ed : Sl} {T : Tb Int} {Q : Sl → Sl → H → Prop} (t : TD h m rd ed T) (hZ : (tkP T.row ++ tkP T.elder).length ≤ BIG)
    (k : ∀ h' sz sn sv, A3 h h' sz (tkP T.row ++ tkP T.elder) sn ((tkP T.row ++ tkP T.elder).foldl ins1 ([], [])).1 sv ((tkP T.row ++ tkP T.elder).foldl ins1 ([], [])).2 → Q sn sv h') : F.spateref6_Table_All (some ⟨m, 0, none⟩) h Q := by
  unfold F.spateref6_Table_All
  refine ⟨T.row.length + 1, ?_⟩
  have nil : ∀ s : Nat → Prop, Mine h ⟨none, 0, 0⟩ := fun _ b hb => by simp [Sl.blk] at hb
  refine coll_row (i := 0) (Z := tkP T.row ++ tkP T.elder) t (by omega) (fun h1 sz e1 m1 o1 => ?_) (T.row.length + 1) h ⟨none, 0, 0⟩ [] (.refl _) (nil fun _ => True) (Owns.nil _ _ _) (by omega) (by omega) (by simp)
  exact ⟨(tkP T.row ++ tkP T.elder).length + 1, loop5 (i := 0) hZ (fun h' sn sv t' => k h' sz sn sv t') _ h1 _ _ ([], []) ⟨e1, o1, Owns.nil _ _ _, Owns.nil _ _ _, m1, nil fun _ => True, nil fun _ => True⟩ rfl rfl (by omega) (by omega) rfl⟩
end Go.Proofs.Ytkedkajdiclmjaa.V.D
