/- The document's table: the shift loop of All; no condition. -/
import Derived.Test.YtkedkajdiclmjaaDm

namespace Go.Proofs.Ytkedkajdiclmjaa.V.D
open Go Go.Proofs.Ytkedkajdiclmjaa.V
set_option linter.unusedVariables false
set_option linter.unusedSimpArgs false

/-- A list with one thing set in at a place. -/
def holeL {α : Type} (L : List α) (x : Nat) (a : α) : List α := L.take x ++ a :: L.drop x
section
variable {α : Type} {L : List α} {x : Nat} {a b : α}
theorem hole_len (h : x ≤ L.length) : (holeL L x a).length = L.length + 1 := by unfold holeL; simp; omega
theorem hole_end : holeL L L.length a = L ++ [a] := by unfold holeL; simp
theorem hole_set (h : x ≤ L.length) : (holeL L x a).set x b = holeL L x b := by
  unfold holeL
  rw [List.set_append_right _ _ (by simp; omega)]
  simp [Nat.min_eq_left h]
theorem hole_get (h : x + 1 ≤ L.length) : (holeL L (x + 1) a)[x]? = L[x]? := by
  unfold holeL
  rw [List.getElem?_append_left (by simp; omega), List.getElem?_take]
  simp
theorem hole_prev (h : L[x]? = some b) : (holeL L (x + 1) a).set (x + 1) b = holeL L x b := by
  have hl := (List.getElem?_eq_some_iff.1 h).1
  rw [hole_set (by omega)]
  unfold holeL
  rw [List.take_add_one, h, List.drop_eq_getElem_cons hl, (List.getElem?_eq_some_iff.1 h).2]
  simp
end
end Go.Proofs.Ytkedkajdiclmjaa.V.D

namespace Go.Proofs.Ytkedkajdiclmjaa.V.D
open Go Go.Proofs.Ytkedkajdiclmjaa.V
set_option linter.unusedVariables false
set_option linter.unusedSimpArgs false

theorem elI6 : El PP 38 3 1 8 (.int .i64 0) := ⟨Try.underlying38, ⟨Try.t3, by kernel_rfl, by kernel_rfl, by kernel_rfl, by kernel_rfl⟩, rfl, by omega, by omega⟩
/-- The three slices of All's second half. -/
structure A3 (h0 h : H) (sz : Sl) (Z : List (Pl Int)) (sn : Sl) (N : List ByteArray) (sv : Sl) (V : List Int) : Prop where
  ext : Ext h0 h
  z : Owns h sz 114 4 (Z.flatMap cD)
  n : Owns h sn 9 1 (N.flatMap cT)
  v : Owns h sv 3 1 (V.flatMap cI)
  mz : Mine h0 sz
  mn : Mine h0 sn
  mv : Mine h0 sv
section
variable {h0 h : H} {sz sn sv : Sl} {Z : List (Pl Int)} {N : List ByteArray} {V : List Int}
theorem A3.set_n (t : A3 h0 h sz Z sn N sv V) {i b : Nat} {x : ByteArray} {K : H → Prop} (hp : sn.ptr = some ⟨b, 0, none⟩) (hi : i < N.length) (k : ∀ h', A3 h0 h' sz Z sn (N.set i x) sv V → K h') : stH h ⟨b, i * 1, none⟩ [.string x] K :=
  own_setAt (f := cT) cT_len t.n hp hi fun h1 o1 e1 _ => k h1 ⟨t.ext.step e1 fun j hj hb => by have := t.mn j hb; omega, t.z.only e1 fun b hb hb' => (t.z.typ hb).ne (t.n.typ hb') (by decide) rfl, o1, t.v.only e1 fun b hb hb' => (t.v.typ hb).ne (t.n.typ hb') (by decide) rfl, t.mz, t.mn, t.mv⟩
theorem A3.set_v (t : A3 h0 h sz Z sn N sv V) {i b : Nat} {x : Int} {K : H → Prop} (hp : sv.ptr = some ⟨b, 0, none⟩) (hi : i < V.length) (k : ∀ h', A3 h0 h' sz Z sn N sv (V.set i x) → K h') : stH h ⟨b, i * 1, none⟩ [.int .i64 x] K :=
  own_setAt (f := cI) cI_len t.v hp hi fun h1 o1 e1 _ => k h1 ⟨t.ext.step e1 fun j hj hb => by have := t.mv j hb; omega, t.z.only e1 fun b hb hb' => (t.z.typ hb).ne (t.v.typ hb') (by decide) rfl, t.n.only e1 fun b hb hb' => (t.n.typ hb).ne (t.v.typ hb') (by decide) rfl, o1, t.mz, t.mn, t.mv⟩
end
section
variable {h0 : H} {sz sn sv : Sl} {Z : List (Pl Int)} {N : List ByteArray} {V : List Int} {Q : Sl → Sl → H → Prop} {C1 : Sl → Sl → Sl → Int → H → Prop} {i j : Nat} {p : Pl Int}
theorem shift9 (hp : Z[i]? = some p) (hj : j ≤ N.length) (hVN : V.length = N.length) (hN : N.length ≤ BIG) (hi : i ≤ 2 * BIG) (k : ∀ h', A3 h0 h' sz Z sn (holeL N j p.key) sv (holeL V j p.value) → C1 sz sn sv ((i + 1 : Nat) : Int) h') :
    ∀ (f x : Nat) (h : H) (a : ByteArray) (b : Int), A3 h0 h sz Z sn (holeL N x a) sv (holeL V x b) → j ≤ x → x ≤ N.length → x - j < f →
      F.spateref6_Table_All.l9 Q C1 f sz sn sv (i : Int) (j : Int) (x : Int) h
  | 0, x, h, a, b, t, h1, h2, hf => by omega
  | f + 1, x, h, a, b, t, h1, h2, hf => by
    unfold F.spateref6_Table_All.l9
    simp only [BIG] at hN hi
    have ln : sn.len = N.length + 1 := by rw [own_len cT_len (by omega) t.n, hole_len h2]
    have lv : sv.len = N.length + 1 := by rw [own_len cI_len (by omega) t.v, hole_len (by omega), hVN]
    have lz : sz.len = Z.length := own_len cD_len (by omega) t.z
    simp only [decide_eq_true_eq, decide_eq_false_iff_not, gt_iff_lt]
    have hx1 : (holeL N x a)[x]? = some ((holeL N x a)[x]'(by rw [hole_len h2]; omega)) := List.getElem?_eq_getElem _
    have hx2 : (holeL V x b)[x]? = some ((holeL V x b)[x]'(by rw [hole_len (by omega)]; omega)) := List.getElem?_eq_getElem _
    obtain ⟨bn, n1, n2⟩ := own_at cT_len (by omega) t.n hx1
    obtain ⟨bv, v1, v2⟩ := own_at cI_len (by omega) t.v hx2
    refine ⟨fun g => ?_, fun g => ?_⟩
    · obtain ⟨y, rfl⟩ : ∃ y, x = y + 1 := ⟨x - 1, by omega⟩
      obtain ⟨c, hc⟩ : ∃ c, N[y]? = some c := ⟨_, List.getElem?_eq_getElem (by omega)⟩
      obtain ⟨d, hd⟩ : ∃ d, V[y]? = some d := ⟨_, List.getElem?_eq_getElem (by omega)⟩
      obtain ⟨bn', n1', n3⟩ := own_at cT_len (by omega) t.n ((hole_get (by omega)).trans hc)
      rw [n1] at n1'; cases n1'
      rw [w64 (by omega) (by omega), show ((y + 1 : Nat) : Int) - 1 = (y : Int) from by omega]
      refine idxA_of n1 (by omega) rfl ?_
      rw [ldS_iff (by have := n3 0 _ rfl; simpa only [add_lit, Nat.add_zero] using this)]
      refine idxA_of n1 (by omega) rfl ?_
      refine t.set_n n1 (by rw [hole_len h2]; omega) fun h3 t3 => ?_
      rw [hole_prev hc] at t3
      obtain ⟨bv', v1', v3⟩ := own_at cI_len (by omega) t3.v ((hole_get (by omega)).trans hd)
      rw [v1] at v1'; cases v1'
      refine idxA_of v1 (by omega) rfl ?_
      rw [ldI_iff (by have := v3 0 _ rfl; simpa only [add_lit, Nat.add_zero] using this)]
      refine idxA_of v1 (by omega) rfl ?_
      refine t3.set_v v1 (by rw [hole_len (by omega)]; omega) fun h4 t4 => ?_
      rw [hole_prev hd] at t4
      exact shift9 hp hj hVN (by simp only [BIG]; omega) (by simp only [BIG]; omega) k f y h4 c d t4 (by omega) (by omega) (by omega)
    · have hxj : x = j := by omega
      subst hxj
      obtain ⟨bz, z1, z2⟩ := own_at cD_len (by omega) t.z hp
      have hil := (List.getElem?_eq_some_iff.1 hp).1
      refine idxA_of z1 (by omega) rfl ?_
      rw [ldS_iff (z2 2 _ rfl)]
      refine idxA_of n1 (by omega) rfl ?_
      refine t.set_n n1 (by rw [hole_len h2]; omega) fun h3 t3 => ?_
      rw [hole_set h2] at t3
      obtain ⟨bz', z1', z3⟩ := own_at cD_len (by omega) t3.z hp
      rw [z1] at z1'; cases z1'
      refine idxA_of z1 (by omega) rfl ?_
      rw [ldI_iff (z3 3 _ rfl)]
      refine idxA_of v1 (by omega) rfl ?_
      refine t3.set_v v1 (by rw [hole_len (by omega)]; omega) fun h4 t4 => ?_
      rw [hole_set (by omega)] at t4
      rw [w64 (by omega) (by omega)]
      exact k h4 t4
end
end Go.Proofs.Ytkedkajdiclmjaa.V.D
