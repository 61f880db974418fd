/- Parts of the proof of StoreRoutes; no condition. -/
import Derived.ArgAppend
import Derived.Shelf.SlLaysF0
import Derived.Shelf.SlSortCmp.NoneTotal
import Derived.Test.YtjjchpaomgmmdaaGreatProg
import Derived.Test.YtjjchpaomgmmdaaGreatQStoreRoutes3
namespace Go.Proofs.YtjjchpaomgmmdaaGreat.V.S
open Go Go.Proofs.YtjjchpaomgmmdaaGreat.V Go.Proofs.YtjjchpaomgmmdaaGreat.V.M
set_option linter.unusedVariables false
set_option linter.unusedSimpArgs false
set_option maxRecDepth 20000
abbrev cBb : Cel := ⟨0, ⟨#[98]⟩, 0⟩
abbrev ab1 : SL := putS [] 1 cA (oneA 1)
abbrev ab2 : SL := putS ab1 1 cBb (oneA 2)
theorem rt_a : rt 2 cA = 0 := by decide +kernel
theorem rt_b : rt 2 cBb = 1 := by decide +kernel
theorem put_1 : putE (partS 2 (rt 2 cA) []) 9 1 cA (oneA 1) true = 0 := by rw [rt_a, part_nil]; decide
theorem put_2 : putE (partS 2 (rt 2 cBb) ab1) 9 1 cBb (oneA 2) true = 0 := by
  have : partS 2 1 ab1 = [] := by
    show partS 2 1 [(cA, _)] = []
    unfold partS
    rw [List.filter_cons, List.filter_nil, show rt 2 (cA, C.layM ((getS ([] : SL) cA).getD []) ⟨1, oneA 1, false⟩).1 = 0 from rt_a]; rfl
  rw [rt_b, this]; decide
theorem part_2 : partS 2 1 ab2 = [(cBb, [⟨1, oneA 2, false⟩])] := by
  show partS 2 1 [(cA, [⟨1, oneA 1, false⟩]), (cBb, [⟨1, oneA 2, false⟩])] = _
  unfold partS
  rw [List.filter_cons, List.filter_cons, List.filter_nil]
  simp only [rt_a, rt_b]
  rfl
theorem units_1 : (unitsS (partX 2 1 ab2) : Int) = 2 := by
  show (unitsS (partX 2 ((1 : Nat) : Int) ab2) : Int) = 2
  rw [partX_nat (by omega), part_2]; rfl
theorem units_2 : (unitsS (partX 2 2 ab2) : Int) = 0 := by
  unfold partX; rw [if_neg (by omega)]; rfl
theorem head10 {h : H} {Q : Bool -> H -> Prop} (k : ∀ h', Ext h h' -> Q true h') : F.xax h Q := by
  unfold F.xax
  refine TNew (fun g => by omega) fun _ _ _ _ h1 p l ps R hps t e1 hR hp ml => ⟨fun g => by simp at g, fun _ => ?_⟩
  have hps : ps.length = 2 := by omega
  unfold F.xax.j2
  refine ⟨fun g => by simp at g, fun _ => ?_⟩
  unfold F.xax.j1
  refine one_spec fun h4 e4 => ?_
  refine TPut (x := ⟨cA, oneA 1⟩) (t.ext e4) (show cA.Key.size <= _ by decide) (right_one' 1) (fun g => absurd (by rw [hps]; exact put_1) g) fun _ h6 R6 t6 o6 hR6 => ?_
  have hR6' : ∀ b, R6 b -> h.size <= b := fun b hb => (hR6 b hb).elim (hR b) fun x => by have := e1.size; have := e4.size; omega
  refine one_spec fun h8 e8 => ?_
  refine TPut (x := ⟨cBb, oneA 2⟩) (t6.ext e8) (show cBb.Key.size <= _ by decide) (right_one' 2) (fun g => absurd (by rw [hps]; exact put_2) g) fun _ h10 R10 t10 o10 hR10 => ?_
  have e06 : Ext h h6 := o6.base (e1.trans e4) hR
  have e010 : Ext h h10 := o10.base (e06.trans e8) hR6'
  refine TScan t10 (by decide) fun r13 h12 w12 m12 e12 => ⟨fun _ => ⟨fun _ => ?_, fun g => by simp at g⟩, fun g => by simp at g⟩
  have t12 := t10.ext e12
  have w12 : Owns h12 r13 tn_api_Row 7 (([⟨cA, oneA 1⟩, ⟨cBb, oneA 2⟩] : List S_api_Row).flatMap cW) := w12
  have hl := own_len cW_len (by omega) w12
  refine TRoute (c := cA) t12 (show cA.Key.size <= _ by decide) fun h16 e16 => ?_
  rw [hps, rt_a]
  refine ⟨fun _ => ?_, fun g => by simp at g⟩
  refine TRoute (c := cBb) (t12.ext e16) (show cBb.Key.size <= _ by decide) fun h19 e19 => ?_
  rw [hps, rt_b]
  refine ⟨fun _ => ⟨fun _ => ?_, fun g => by rw [hl] at g; simp at g⟩, fun g => by simp at g⟩
  refine rowAt (i := 1) ((w12.ext e16).ext e19).reads rfl fun a ca => ?_
  have c4 : cellH h19 (a.add 4) = some (.int .i64 2) := ca 4 _ rfl
  refine ldI_of (by simpa [add_lit, Addr.add, Nat.add_assoc] using c4) ⟨fun _ => ?_, fun g => by simp at g⟩
  have t19 := (t12.ext e16).ext e19
  refine TUnits t19 ?_
  rw [hps]
  refine ⟨fun _ => TUnits t19 ?_, fun g => absurd (show ((unitsS (partX 2 1 ab2) : Int) == 2) = false from g) (by rw [units_1]; decide)⟩
  rw [hps]
  have u2 : ((unitsS (partX 2 2 ab2) : Int) == 0) = true := by rw [units_2]; rfl
  show Q ((unitsS (partX 2 2 ab2) : Int) == 0) h19
  rw [u2]
  exact k h19 ((e010.trans e12).trans (e16.trans e19))
structure St0 where
  y : St
  n : Int
section
variable {T : Type} {enc : TypeId × Value -> T} {w : World} {base : Nat} {spare : Nat -> Bool} {held : Bool} {fuel : Nat}
theorem strs_open {v : Value} {y : DataW T × List MemPlace} (h : DataW.trod enc PP w base spare held fuel tn_Slstring [v] = some y) :
    ∃ (s : Sl) (L : List ByteArray), v = s.enc ∧ Reads w.heap s 1 (L.flatMap cT) ∧ s.len <= s.cap ∧ (L ≠ [] -> ∀ b, s.blk = some b -> b < w.heap.size) ∧ (∀ x ∈ L, SmallK x) ∧ L.length <= 9223372036854775807 :=
  gen_open cT SmallK cT_len ut_Slstring (show PP.cellsOf 9 = 1 from by kernel_rfl) (by omega) h fun n cs y hy _ => by
    obtain ⟨m, e1, _, e2⟩ := DataW.trod_string Tryz.underlying9 hy
    exact ⟨m, e1, by simp only [maxLen] at e2; show m.size <= _; omega⟩
end
section
variable {h0 h : H} {l : Sl} {L : List St0} {i : Nat} {x : St0}
end
open Go Go.Sort Go.Proofs.YtjjchpaomgmmdaaGreat.V
instance : Inhabited Cel := ⟨zeroC⟩
open Go Go.Proofs.YtjjchpaomgmmdaaGreat.V
abbrev tS7 : TypeId := tn_spateref7_Shard
abbrev tH7 : TypeId := tn_spateref7_Held
abbrev tV7 : TypeId := tn_spateref7_Version
def rV (v : Ver) : S_spateref7_Version := ⟨v.epoch, v.value, v.dead⟩
abbrev fV (v : Ver) : List Value := (rV v).cells
structure DR where
  c : Cel
  vs : List Ver
  s : Sl
abbrev hR (r : DR) : List Value := (⟨r.c, r.s⟩ : S_spateref7_Held).cells
def toD (Z : List DR) : SL := Z.map fun r => (r.c, r.vs)
structure DZ (h : H) (d : Nat) (Z : List DR) (slots : Nat) (x : Sl) : Prop where
  sb : Blk h d #[.int .i64 (slots : Int), x.enc] tS7
  row : Owns h x tH7 4 (Z.flatMap hR)
  vs : ∀ r ∈ Z, Owns h r.s tV7 6 (r.vs.flatMap fV)
def DH (h : H) (d : Nat) (S : SL) (slots : Nat) : Prop := ∃ x Z, toD Z = S ∧ DZ h d Z slots x
def DTy (h : H) (b : Nat) : Prop := ∃ e c, (e = tS7 ∨ e = tH7 ∨ e = tV7) ∧ Blk h b c e
theorem own_typ {h : H} {s : Sl} {e : TypeId} {k : Nat} {cs : List Value} (w : Owns h s e k cs) {b : Nat} (hb : s.blk = some b) : ∃ c, Blk h b c e := by
  obtain ⟨_, ⟨q1, _, _⟩ | ⟨b', c', q1, q2, _⟩⟩ := w
  · simp [Sl.blk, q1] at hb
  · simp [Sl.blk, q1] at hb
    subst hb; exact ⟨c', q2⟩
section
variable {h h' : H} {d : Nat} {Z : List DR} {S : SL} {slots : Nat} {x : Sl}
theorem DZ.keep {P : Nat -> Prop} (z : DZ h d Z slots x) (o : Only P h h') (hn : ∀ b, DTy h b -> ¬ P b) : DZ h' d Z slots x :=
  ⟨o.block z.sb (hn d ⟨_, _, .inl rfl, z.sb⟩), z.row.only o fun b hb => by
    obtain ⟨c, q⟩ := own_typ z.row hb
    exact hn b ⟨_, c, .inr (.inl rfl), q⟩, fun r hr => (z.vs r hr).only o fun b hb => by
    obtain ⟨c, q⟩ := own_typ (z.vs r hr) hb
    exact hn b ⟨_, c, .inr (.inr rfl), q⟩⟩
theorem DH.keep {P : Nat -> Prop} (z : DH h d S slots) (o : Only P h h') (hn : ∀ b, DTy h b -> ¬ P b) : DH h' d S slots := by
  obtain ⟨x, Z, h1, z⟩ := z
  exact ⟨x, Z, h1, z.keep o hn⟩
theorem DH.ext (z : DH h d S slots) (e : Ext h h') : DH h' d S slots := z.keep e fun _ _ f => f
theorem DH.oth (z : DH h d S slots) {t : Sl} {e : TypeId} {k : Nat} {cs : List Value} (o : Only (fun b => t.blk = some b) h h') (w : Owns h t e k cs) (he : e ≠ tS7 ∧ e ≠ tH7 ∧ e ≠ tV7) : DH h' d S slots := z.keep o fun b hb hh => by
  obtain ⟨e', c', he', hb'⟩ := hb
  obtain ⟨c, hc⟩ := own_typ w hh
  have := hc.symm.trans hb'
  simp at this
  rcases he' with rfl | rfl | rfl
  · exact he.1 this.2
  · exact he.2.1 this.2
  · exact he.2.2 this.2
theorem DH.lt (z : DH h d S slots) : d < h.size := by
  obtain ⟨x, Z, h1, z⟩ := z
  exact block_lt z.sb
end
section
variable {h : H} {d : Nat} {Z : List DR} {slots : Nat} {x : Sl}
end
section
variable {h : H} {s : Sl} {vs : List Ver}
end
theorem New7_spec {h : H} {m : Int} {Q : Option Addr -> Int -> H -> Prop} (k0 : (m < 2 ∨ m > 1048576) -> Q none 1 h) (k1 : 2 <= m -> m <= 1048576 -> ∀ h' d, DH h' d [] m.toNat -> Ext h h' -> h.size <= d -> Q (some ⟨d, 0, none⟩) 0 h') : F.xay m h Q := by
  unfold F.xay F.xay.j2 F.xay.j1
  have go : 2 <= m -> m <= 1048576 -> new h ((⟨m, (⟨none, 0, 0⟩ : Sl)⟩ : S_spateref7_Shard).cells.toArray) tS7 fun a2 h1 => Q (some a2) 0 h1 := fun h1 h2 =>
    new_of fun n h3 hn b3 e3 s3 => k1 h1 h2 h3 n ⟨⟨none, 0, 0⟩, [], rfl, ⟨by
      have hm : ((m.toNat : Nat) : Int) = m := by omega
      rw [hm]; exact b3, Owns.nil _ _ _, fun r hr => by cases hr⟩⟩ e3 (by omega)
  refine ⟨fun g => ⟨fun _ => k0 (.inl (of_decide_eq_true g)), fun h => by cases h⟩, fun g => ⟨fun g2 => k0 (.inr (of_decide_eq_true g2)), fun g2 => ?_⟩⟩
  exact go (by have := of_decide_eq_false g; omega) (by have := of_decide_eq_false g2; omega)
section
variable {h : H} {d : Nat} {Z : List DR} {slots : Nat} {x : Sl}
end
abbrev tSd : TypeId := tn_spateref10_Store
abbrev tPd : TypeId := tp_spateref7_Shard
theorem dty_ne {h : H} {b : Nat} {c : Array Value} {e : TypeId} (hb : Blk h b c e) (he : e ≠ tS7 ∧ e ≠ tH7 ∧ e ≠ tV7) : ¬ DTy h b := fun ⟨e', c', he', hb'⟩ => by
  have := hb.symm.trans hb'
  simp at this
  rcases he' with rfl | rfl | rfl
  · exact he.1 this.2
  · exact he.2.1 this.2
  · exact he.2.2 this.2
structure DS (h : H) (d : Nat) (l : Sl) (ds : List Nat) (S : SL) (slots : Nat) : Prop where
  sb : Blk h d #[l.enc] tSd
  own : Owns h l tPd 1 (ds.flatMap cQ)
  sh : ∀ k q, ds[k]? = some q -> DH h q (partS ds.length k S) slots
  nd : ∀ (j k : Nat) q, ds[j]? = some q -> ds[k]? = some q -> j = k
section
variable {h h' : H} {d : Nat} {l : Sl} {ds : List Nat} {S : SL} {slots : Nat}
theorem DS.keep {P : Nat -> Prop} (z : DS h d l ds S slots) (o : Only P h h') (hn : ∀ b, DTy h b -> ¬ P b) (h1 : ¬ P d) (h2 : ∀ b, l.blk = some b -> ¬ P b) : DS h' d l ds S slots :=
  ⟨o.block z.sb h1, z.own.only o fun b hb => h2 b hb, fun k q hq => (z.sh k q hq).keep o hn, z.nd⟩
theorem DS.ext (z : DS h d l ds S slots) (e : Ext h h') : DS h' d l ds S slots := z.keep e (fun _ _ f => f) (fun f => f) fun _ _ f => f
theorem DS.len (z : DS h d l ds S slots) : l.len = ds.length := own_len cQ_len (by omega) z.own
theorem DS.ldl (z : DS h d l ds S slots) {K : Sl -> Prop} (k : K l) : ldL h ⟨d, 0, none⟩ K := (ldL_iff (z.sb.cell (i := 0) rfl)).2 k
theorem hash7_loop {key : ByteArray} {n : Nat} {Q : Int -> H -> Prop} (hl : key.size <= 9223372036854775807) (k : Q (n : Int) h) :
    ∀ (m i : Nat) (x : Nat), i <= key.size -> key.size - i < m -> x < 18446744073709551616 -> (key.data.toList.drop i).foldl hstep x = n -> F.xbe.l1 Q m key (x : Int) (i : Int) h := by
  intro m
  induction m with
  | zero => intro i x h1 h2; omega
  | succ m ih =>
    intro i x h1 h2 hlt hx
    unfold F.xbe.l1
    have hsz := size_data (s := key)
    simp only [decide_eq_true_eq, decide_eq_false_iff_not]
    refine ⟨fun g => ?_, fun g => ?_⟩
    · obtain ⟨c, hc⟩ : ∃ c, key.data.toList[i]? = some c := ⟨_, List.getElem?_eq_getElem (by omega)⟩
      refine idxS_of (i := i) (b := c) hc rfl ?_
      rw [hash_step c hlt, w64 (by omega) (by omega)]
      refine ih (i + 1) (hstep x c) (by omega) (by omega) (hstep_lt x c) ?_
      rw [← hx, List.drop_eq_getElem_cons (show i < key.data.toList.length by omega), List.foldl_cons]
      have : key.data.toList[i]'(by omega) = c := by
        rw [List.getElem?_eq_getElem (by omega)] at hc
        exact Option.some.inj hc
      rw [this]
    · have : i = key.size := by omega
      rw [this, List.drop_of_length_le (by omega)] at hx
      have hx : x = n := hx
      rw [hx]; exact k
theorem Hash7_spec {key : ByteArray} {Q : Int -> H -> Prop} (hk : key.size <= 9223372036854775807) (k : Q ((hashM key : Nat) : Int) h) : F.xbe key h Q := by
  unfold F.xbe
  exact ⟨key.size + 1, hash7_loop hk k _ 0 14695981039346656037 (by omega) (by omega) (by omega) (by rw [List.drop_zero, hashM, hashL_eq])⟩
theorem DRoute {c : Cel} {Q : Int -> H -> Prop} (z : DS h d l ds S slots) (h0 : 0 < ds.length) (h16 : ds.length <= 16) (hk : KeyOk c) (k : Q ((rt ds.length c : Nat) : Int) h) : F.xcb (some ⟨d, 0, none⟩) c.Key h Q := by
  unfold F.xcb
  simp only [nn_some, add_lit, Nat.add_zero]
  refine z.ldl (Hash7_spec hk ⟨z.sb.cell (i := 0) rfl, ?_⟩)
  obtain ⟨q1, q2⟩ := rt_wrap (x := hashM c.Key) h0 h16
  rw [z.len, q1]
  refine ⟨by omega, ?_⟩
  rw [q2]
  exact k
end
theorem DNew {h : H} {m sl : Int} {Q : Option Addr -> Int -> H -> Prop} (k0 : (m < 1 ∨ m > 16 ∨ sl < 2 ∨ sl > 1048576) -> ∀ h', Ext h h' -> Q none 1 h')
    (k1 : 1 <= m -> m <= 16 -> 2 <= sl -> sl <= 1048576 -> ∀ h' d l ds, (ds.length : Int) = m -> DS h' d l ds [] sl.toNat -> Ext h h' -> h.size <= d -> (∀ q ∈ ds, h.size <= q) -> Q (some ⟨d, 0, none⟩) 0 h') : F.xak m sl h Q := by
  have bad : (m < 1 ∨ m > 16) -> F.xak.j3 Q m sl true h := fun g => by
    unfold F.xak.j3
    exact ⟨fun _ => k0 (by omega) h (.refl _), fun g => by cases g⟩
  unfold F.xak
  refine ⟨fun g => bad (by have := of_decide_eq_true g; omega), fun g1 => ?_⟩
  have g1 := of_decide_eq_false g1
  unfold F.xak.j3
  refine ⟨fun g => k0 (by have := of_decide_eq_true g; omega) h (.refl _), fun g2 => ?_⟩
  have g2 := of_decide_eq_false g2
  unfold F.xak.j1
  refine new_of fun p h1 hp b1 e1 s1 => ⟨m.toNat + 1, ?_⟩
  have key : ∀ (d i : Nat) (hh : H) (l : Sl) (ds : List Nat), i <= m.toNat -> m.toNat - i < d -> ds.length = i -> Blk hh p #[l.enc] tSd -> Owns hh l tPd 1 (ds.flatMap cQ) -> Mine h l -> Ext h hh ->
      (∀ (k q : Nat), ds[k]? = some q -> DH hh q [] sl.toNat) -> (∀ q ∈ ds, h.size <= q ∧ q < hh.size) -> (∀ (j k q : Nat), ds[j]? = some q -> ds[k]? = some q -> j = k) -> (0 < i -> 2 <= sl ∧ sl <= 1048576) -> F.xak.l2 Q d m sl ⟨p, 0, none⟩ (i : Int) hh := by
    intro d
    induction d with
    | zero => intro i _ _ _ _ hm; omega
    | succ d ih =>
      intro i hh l ds hi hm hl b w mi e hs hb hd hsl
      unfold F.xak.l2
      have hsz := e.size
      refine ⟨fun g => ?_, fun g => ?_⟩
      · have g := of_decide_eq_true g
        refine New7_spec (fun g => ⟨fun _ => k0 (by omega) hh e, fun g => by simp at g⟩) fun q1 q2 h4 q dh4 e4 hq => ⟨fun g => by simp at g, fun _ => ?_⟩
        have b4 : Blk h4 p #[l.enc] tSd := e4.block b fun f => f
        simp only [add_lit, Nat.add_zero]
        refine (ldL_iff (b4.cell (i := 0) rfl)).2 ?_
        refine newL_of fun m2 h10 hm2 b10 e10 s10 => ?_
        have r10 : Reads h10 ⟨some ⟨m2, 0, none⟩, 1, 1⟩ 1 ([q].flatMap cQ) := blk_reads (by simpa using b10) rfl
        have w10 := (w.ext e4).ext e10
        refine app_list (L := ds) (M := [q]) cQ_len (by omega) el_Sl_spateref7_Shard w10 r10 (fun x v hv => by simp at hv; subst hv; rfl) (by simp only [List.length_singleton]; omega) fun r3 h12 w3 o3 n3 => ?_
        have hsz4 := e4.size
        have hsz10 := e10.size
        have hsz3 := o3.size
        have m3 : Mine h r3 := fun y hy => by
          rcases n3 with n3 | ⟨b', n3, n4⟩
          · exact mi y (by rw [← n3]; exact hy)
          · rw [n3] at hy; cases hy; omega
        have e12 : Ext h h12 := ((e.trans e4).trans e10).mine mi o3
        have b12 : Blk h12 p #[l.enc] tSd := o3.block (e10.block b4 fun f => f) fun hb' => own_ne w10 (e10.block b4 fun f => f) (by decide) hb'
        refine stH_of b12 (by simp) fun h14 b14 o14 s14 => ?_
        rw [writeA_all (by simp)] at b14
        have w14 : Owns h14 r3 tPd 1 ((ds ++ [q]).flatMap cQ) := w3.only o14 fun y hy hf => own_ne w3 b12 (by decide) (by rw [hy, hf])
        rw [w64 (by omega) (by omega)]
        have hsz14 := o14.size
        have hqlt := dh4.lt
        have stay : ∀ {q' : Nat}, DH h10 q' [] sl.toNat -> DH h14 q' [] sl.toNat := fun s => (s.oth o3 w10 (by decide)).keep o14 fun x hx g => by subst g; exact dty_ne b12 (by decide) hx
        have old : ∀ {k q' : Nat}, (ds ++ [q])[k]? = some q' -> (k < i ∧ ds[k]? = some q') ∨ (k = i ∧ q' = q) := fun {k q'} hq' => by
          have hlt := (List.getElem?_eq_some_iff.1 hq').1
          rw [List.length_append, List.length_singleton] at hlt
          rcases Nat.lt_or_ge k ds.length with h | h
          · rw [List.getElem?_append_left h] at hq'; exact .inl ⟨by omega, hq'⟩
          · have hk : k = ds.length := by omega
            rw [hk, List.getElem?_append_right (by omega), Nat.sub_self] at hq'
            cases hq'; exact .inr ⟨by omega, rfl⟩
        refine ih (i + 1) h14 r3 (ds ++ [q]) (by omega) (by omega) (by simp [hl]) b14 w14 m3 (e12.step o14 fun x hx e => by omega) (fun k q' hq' => ?_) (fun q' hq' => ?_) (fun j k q' hj hk => ?_) fun _ => ⟨q1, q2⟩
        · rcases old hq' with ⟨h1, h2⟩ | ⟨h1, h2⟩
          · exact stay (((hs k q' h2).ext e4).ext e10)
          · subst h2; exact stay (dh4.ext e10)
        · rcases List.mem_append.1 hq' with h1 | h1
          · have := hb q' h1; exact ⟨this.1, by omega⟩
          · obtain rfl := List.mem_singleton.1 h1; exact ⟨by omega, by omega⟩
        · rcases old hj with ⟨h1, h2⟩ | ⟨h1, h2⟩
          · rcases old hk with ⟨h3, h4⟩ | ⟨h3, h4⟩
            · exact hd j k q' h2 h4
            · have := hb q' (List.mem_of_getElem? h2); subst h4; omega
          · rcases old hk with ⟨h3, h4⟩ | ⟨h3, h4⟩
            · have := hb q' (List.mem_of_getElem? h4); subst h2; omega
            · omega
      · have g := of_decide_eq_false g
        have hsl := hsl (by omega)
        exact k1 (by omega) (by omega) (by omega) (by omega) hh p l ds (by omega) ⟨b, w, fun k q hq => by rw [part_nil]; exact hs k q hq, hd⟩ e (by omega) fun q hq => (hb q hq).1
  exact key _ 0 h1 ⟨none, 0, 0⟩ [] (by omega) (by omega) rfl b1 (by simpa using Owns.nil h1 tPd 1) (fun x hx => by simp [Sl.blk] at hx) e1 (fun k q hq => by simp at hq) (fun q hq => by cases hq) (fun j k q hq => by simp at hq) fun g => by omega
theorem keyAt {h : H} {s : Sl} {A : List ByteArray} (rd : Reads h s 1 (A.flatMap cT)) {i : Nat} {x : ByteArray} (hx : A[i]? = some x) {K : Addr -> Prop} (k : ∀ a, cellH h a = some (.string x) -> K a) : idxA s (i : Int) 1 K := by
  obtain ⟨p, p1, p2, p3⟩ := rd_at cT_len (by omega) rd hx
  have hl := rd_len cT_len (by omega) rd
  exact idxR_of (i := i) p1 (by have := (List.getElem?_eq_some_iff.1 hx).1; omega) rfl (k _ p3.one)
theorem StoreRoutes_spec {sh : Int} {l0 : Sl} {L : List ByteArray} {h : H} {Q : Bool -> H -> Prop} (rd : Reads h l0 1 (L.flatMap cT)) (ok : ∀ y ∈ L, SmallK y) (hL : L.length <= 9223372036854775807) (k : ∀ h', Ext h h' -> Q true h') : F.xac sh l0 h Q := by
  unfold F.xac
  have hlen := rd_len cT_len (by omega) rd
  refine TNew (fun g => ?_) fun g1 g2 g3 g4 h1 p l ps R hps t1 e1 hR1 hp1 hl1 => ?_
  · -- none
    refine DNew (fun _ h4 e4 => ⟨fun g => by simp at g, fun _ => ?_⟩) fun g1 g2 g3 g4 => by omega
    unfold F.xac.j5 F.xac.j1
    refine ⟨fun g => by simp at g, fun _ => ⟨1, ?_⟩⟩
    unfold F.xac.l2
    have hh : ∀ C1, F.xac.j4 Q C1 l0 none none 0 false h4 := fun C1 => by
      unfold F.xac.j4
      exact ⟨fun g => (by cases g), fun _ => head10 fun h' e' => k h' (e4.trans e')⟩
    exact ⟨fun _ => ⟨fun _ => hh _, fun _ => hh _⟩, fun _ => hh _⟩
  refine DNew (fun g => by omega) fun _ _ _ _ h4 d l' ds hds z4 e4 hd hq => ⟨fun g => by simp at g, fun _ => ?_⟩
  have hn : ds.length = ps.length := by omega
  unfold F.xac.j5 F.xac.j1
  refine ⟨fun g => by simp at g, fun _ => ⟨L.length + 1, ?_⟩⟩
  have n1 := t1.n1
  have n16 := t1.n2
  have steps : ∀ (f i : Nat) (hh : H), i <= L.length -> L.length - i < f -> Ext h4 hh -> F.xac.l2 Q f l0 (some ⟨p, 0, none⟩) (some ⟨d, 0, none⟩) (i : Int) hh := by
    intro f
    induction f with
    | zero => intro i _ _ hm; omega
    | succ f ih =>
      intro i hh hi hm e
      unfold F.xac.l2
      rw [hlen]
      have e0 := (e1.trans e4).trans e
      have done : ∀ C1, F.xac.j4 Q C1 l0 (some ⟨p, 0, none⟩) (some ⟨d, 0, none⟩) (i : Int) false hh := fun C1 => by
        unfold F.xac.j4
        exact ⟨fun g => (by cases g), fun _ => head10 fun h' e' => k h' (e0.trans e')⟩
      refine ⟨fun g => ⟨fun _ => ?_, fun _ => done _⟩, fun _ => done _⟩
      have g := of_decide_eq_true g
      obtain ⟨y, hy⟩ : ∃ y, L[i]? = some y := ⟨_, List.getElem?_eq_getElem (by omega)⟩
      have yk : KeyOk (⟨0, y, 0⟩ : Cel) := ok y (List.mem_of_getElem? hy)
      unfold F.xac.j4 F.xac.j3
      refine ⟨fun _ => keyAt (rd.ext e0) hy fun a ca => ldS_of ca (keyAt (rd.ext e0) hy fun a2 ca2 => ldS_of ca2 (TRoute (c := ⟨0, y, 0⟩) ((t1.ext e4).ext e) yk fun h15 e15 => ⟨e15.cell ca2 fun f => f, DRoute (c := ⟨0, y, 0⟩) ((z4.ext e).ext e15) (by omega) (by omega) yk ?_⟩)), fun g => by simp at g⟩
      rw [hn]
      refine ⟨fun g => by simp at g, fun _ => ?_⟩
      rw [w64 (by omega) (by omega)]
      exact ih (i + 1) h15 (by omega) (by omega) (e.trans e15)
  exact steps _ 0 h4 (by omega) (by omega) (.refl _)
end Go.Proofs.YtjjchpaomgmmdaaGreat.V.S
