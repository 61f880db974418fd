/- Parts of the proof of StoreWhole; no condition. -/
import Derived.ChangeSlices
import Derived.OpenShut
import Derived.Shelf.SlLaysM
import Derived.Shelf.SortM.Plain
import Derived.Shelf.SortM.SortNone
import Derived.Sort.KeysCollected
import Derived.Sort.OwnSorted
import Derived.Test.YtjjchpaomgmmdaaGreatProg
import Derived.Test.YtjjchpaomgmmdaaGreatQStoreWhole3
namespace Go.Proofs.YtjjchpaomgmmdaaGreat.V
open Go Go.Proofs
set_option maxRecDepth 100000
def srtRen : Go.Shelf.Ren := ⟨fun | 6 => 124 | 8 => 145 | 9 => 144 | 19 => 162 | 20 => 163 | 21 => 153 | 22 => 154 | 23 => 155 | 24 => 156 | 25 => 157 | 26 => 158 | 27 => 159 | 28 => 160 | 29 => 161 | 36 => 167 | 31 => 168 | 32 => 169 | 37 => 170 | 38 => 171 | 39 => 172 | 41 => 181 | n => n, fun | 27 => 22 | 29 => 9 | 3 => 3 | 32 => 177 | 26 => 22 | 0 => 0 | 44 => 223 | 46 => 90 | 4 => 4 | 36 => 216 | 35 => 215 | 41 => 166 | 5 => 5 | 9 => 9 | 53 => 227 | 57 => 231 | 63 => 238 | 64 => 239 | n => n, fun n => n⟩
theorem srt : SlLaysM.n6 Tryz.prog srtRen := { mixed := by kernel_rfl, f6 := ⟨Tryz.f124.name, by decide, Tryz.func124.trans (congrArg some (by kernel_rfl))⟩, f8 := Tryz.func145.trans (congrArg some (by kernel_rfl)), f9 := ⟨Tryz.f144.name, by decide, Tryz.func144.trans (congrArg some (by kernel_rfl))⟩, f19 := Tryz.func162.trans (congrArg some (by kernel_rfl)), f20 := Tryz.func163.trans (congrArg some (by kernel_rfl)), f21 := ⟨Tryz.f153.name, by decide, Tryz.func153.trans (congrArg some (by kernel_rfl))⟩, f22 := ⟨Tryz.f154.name, by decide, Tryz.func154.trans (congrArg some (by kernel_rfl))⟩, f23 := ⟨Tryz.f155.name, by decide, Tryz.func155.trans (congrArg some (by kernel_rfl))⟩, f24 := ⟨Tryz.f156.name, by decide, Tryz.func156.trans (congrArg some (by kernel_rfl))⟩, f25 := ⟨Tryz.f157.name, by decide, Tryz.func157.trans (congrArg some (by kernel_rfl))⟩, f26 := ⟨Tryz.f158.name, by decide, Tryz.func158.trans (congrArg some (by kernel_rfl))⟩, f27 := ⟨Tryz.f159.name, by decide, Tryz.func159.trans (congrArg some (by kernel_rfl))⟩, f28 := ⟨Tryz.f160.name, by decide, Tryz.func160.trans (congrArg some (by kernel_rfl))⟩, f29 := ⟨Tryz.f161.name, by decide, Tryz.func161.trans (congrArg some (by kernel_rfl))⟩, f31 := Tryz.func168.trans (congrArg some (by kernel_rfl)), f32 := Tryz.func169.trans (congrArg some (by kernel_rfl)), f36 := ⟨Tryz.f167.name, by decide, Tryz.func167.trans (congrArg some (by kernel_rfl))⟩, f37 := ⟨Tryz.f170.name, by decide, Tryz.func170.trans (congrArg some (by kernel_rfl))⟩, f38 := ⟨Tryz.f171.name, by decide, Tryz.func171.trans (congrArg some (by kernel_rfl))⟩, f39 := ⟨Tryz.f172.name, by decide, Tryz.func172.trans (congrArg some (by kernel_rfl))⟩, f41 := ⟨Tryz.f181.name, by decide, Tryz.func181.trans (congrArg some (by kernel_rfl))⟩, t0 := Tryz.underlying0, a0 := Tryz.isAgg0, z0 := Tryz.sizeOf0, v0 := Tryz.zeroValue0, t3 := Tryz.underlying3, a3 := Tryz.isAgg3, z3 := Tryz.sizeOf3, v3 := Tryz.zeroValue3, t4 := Tryz.underlying4, a4 := Tryz.isAgg4, z4 := Tryz.sizeOf4, v4 := Tryz.zeroValue4, t5 := Tryz.underlying5, a5 := Tryz.isAgg5, z5 := Tryz.sizeOf5, v5 := Tryz.zeroValue5, t9 := Tryz.underlying9, a9 := Tryz.isAgg9, z9 := Tryz.sizeOf9, v9 := Tryz.zeroValue9, t26 := Tryz.underlying22, a26 := Tryz.isAgg22, z26 := Tryz.sizeOf22, v26 := Tryz.zeroValue22, t27 := Tryz.underlying22, a27 := Tryz.isAgg22, z27 := Tryz.sizeOf22, v27 := Tryz.zeroValue22, t29 := Tryz.underlying9, a29 := Tryz.isAgg9, z29 := Tryz.sizeOf9, v29 := Tryz.zeroValue9, t32 := Tryz.underlying177, a32 := Tryz.isAgg177, z32 := Tryz.sizeOf177, v32 := Tryz.zeroValue177, t35 := Tryz.underlying215, a35 := Tryz.isAgg215, z35 := Tryz.sizeOf215, v35 := Tryz.zeroValue215, t36 := Tryz.underlying216, a36 := Tryz.isAgg216, z36 := Tryz.sizeOf216, v36 := Tryz.zeroValue216, t41 := Tryz.underlying166, a41 := Tryz.isAgg166, z41 := Tryz.sizeOf166, v41 := Tryz.zeroValue166, t44 := Tryz.underlying223, a44 := Tryz.isAgg223, z44 := Tryz.sizeOf223, v44 := Tryz.zeroValue223, t46 := Tryz.underlying90, a46 := Tryz.isAgg90, z46 := Tryz.sizeOf90, v46 := Tryz.zeroValue90, t53 := Tryz.underlying227, a53 := Tryz.isAgg227, z53 := Tryz.sizeOf227, v53 := Tryz.zeroValue227, t57 := Tryz.underlying231, a57 := Tryz.isAgg231, z57 := Tryz.sizeOf231, v57 := Tryz.zeroValue231, t63 := Tryz.underlying238, a63 := Tryz.isAgg238, z63 := Tryz.sizeOf238, v63 := Tryz.zeroValue238, t64 := Tryz.underlying239, a64 := Tryz.isAgg239, z64 := Tryz.sizeOf239, v64 := Tryz.zeroValue239 }
open Go Go.Sort
set_option linter.unusedVariables false
set_option linter.unusedSimpArgs false
noncomputable def sortT (ss : List ByteArray) : List ByteArray := ((ss.map fun s => s.data.toList).mergeSort fun x y => decide (x <= y)).map fun l => ⟨l.toArray⟩
theorem sortT_len (ss : List ByteArray) : (sortT ss).length = ss.length := by simp [sortT]
theorem enc_str (s : ByteArray) : encStr s.data.toList = .string s := by simp [encStr]
theorem flat_str (ss : List ByteArray) : ss.flatMap cT = (ss.map fun s => s.data.toList).map encStr := by
  rw [List.map_map]
  induction ss with
  | nil => rfl
  | cons a r ih => rw [List.flatMap_cons, ih]; simp [enc_str]
theorem flat_sort (ss : List ByteArray) : (sortT ss).flatMap cT = ((ss.map fun s => s.data.toList).mergeSort fun x y => decide (x <= y)).map encStr := by
  rw [flat_str, sortT, List.map_map, List.map_map]
  congr 1
theorem sort_fn {h : H} {s : Sl} {ss : List ByteArray} {f : Nat} {K : Value -> H -> Prop} (hf : srtRen.f 6 = f) (ow : Owns h s 9 1 (ss.flatMap cT)) (hl : ss.length < 4611686018427387904)
    (k : ∀ h', Owns h' s 9 1 ((sortT ss).flatMap cT) -> Only (fun b => s.blk = some b) h h' -> K (.tuple #[]) h') : Fn Tryz.prog f [s.enc].toArray h K := fun w hw => by
  subst hw
  subst hf
  obtain ⟨hlen, ⟨h1, h2, h3⟩ | ⟨g, c, h1, h2, h3, h4, h5, h6⟩⟩ := id ow
  · obtain ⟨sp, sl, sc⟩ := s
    simp only at h1 h2 h3
    subst h1; subst h2; subst h3
    have hs : ss = [] := by
      have := hlen
      rw [flat_len cT 1 cT_len] at this
      simp only at this
      exact List.eq_nil_of_length_eq_zero (by omega)
    subst hs
    have hc := AnyM.slices_Sort_string_none srt none 0 w
    refine callsIn_wide.2 (hc.mono fun e w' ⟨he, hn⟩ => ?_)
    subst he
    subst hn
    refine ⟨_, rfl, Like.refl _, k _ ?_ (.refl _)⟩
    have : sortT [] = [] := by simp [sortT]
    rw [this]
    exact ow
  · obtain ⟨sp, sl, sc⟩ := s
    simp only at h1 h3 h4 h5
    subst h1
    have hsl : sl = ss.length := by
      have := hlen
      rw [flat_len cT 1 cT_len] at this
      simp only at this
      omega
    subst hsl
    have htk : c.toList.take (ss.map fun s => s.data.toList).length = (ss.map fun s => s.data.toList).map encStr := by
      rw [← flat_str, List.length_map]
      rw [flat_len cT 1 cT_len, Nat.mul_one] at h6
      exact h6
    have hH := holds_of_block (w := w) (ss := ss.map fun s => s.data.toList) h2 htk
    have hc := AnyM.slices_Sort_string srt g 0 sc (ss.map fun s => s.data.toList) w hH (Array.getElem?_eq_some_iff.1 h2).1 (by simpa using hl)
    rw [List.length_map] at hc
    refine callsIn_wide.2 (hc.mono fun e w' ⟨he, n, os, hn⟩ => ?_)
    subst he
    have hg : w.grownBy w' (some g) := by rw [hn]; exact grownBy_sorted _
    have hso := heap_sorted (n := n) (os := os) ((ss.map fun s => s.data.toList).mergeSort fun x y => decide (x <= y)).toArray h2
    rw [← hn] at hso
    refine ⟨_, rfl, ⟨hg.os, hg.tape, hg.output, by rw [hn]; exact Nat.le_add_right _ _⟩, k _ ⟨?_, .inr ⟨g, _, rfl, hso, ?_, h4, h5, ?_⟩⟩ ((heap_ext hg).mono fun b _ e => by simpa [Sl.blk] using e)⟩
    · rw [flat_len cT 1 cT_len, sortT_len]
    · simp only [putCells]; simpa using h3
    · rw [flat_len cT 1 cT_len, Nat.mul_one, sortT_len, flat_sort]
      have hlm : ((ss.map fun s => s.data.toList).mergeSort fun x y => decide (x <= y)).length = ss.length := by simp
      have := take_putCells c ((ss.map fun s => s.data.toList).mergeSort fun x y => decide (x <= y)) (by rw [hlm]; omega)
      rw [hlm] at this
      exact this
open Go
set_option maxRecDepth 20000
def hstep (h : Nat) (c : UInt8) : Nat := ((h ^^^ c.toNat) * 1099511628211) % 18446744073709551616
theorem hash_step {x : Nat} (c : UInt8) (hx : x < 18446744073709551616) : IntKind.wrap .u64 ((bitsOf .xor .u64 (x : Int) (IntKind.wrap .u64 (c.toNat : Int))) * 1099511628211) = ((hstep x c : Nat) : Int) := by
  have hb : c.toNat < 256 := c.toNat_lt
  have e2 : IntKind.wrap .u64 (c.toNat : Int) = ((c.toNat : Nat) : Int) := by rw [wrap_u64]; omega
  rw [e2]
  simp only [bitsOf]
  rw [BitVec.ofInt_natCast, BitVec.ofInt_natCast, BitVec.toNat_xor, BitVec.toNat_ofNat, BitVec.toNat_ofNat, wrap_u64, wrap_u64]
  have e3 : x % 2 ^ (IntKind.bits .u64) = x := Nat.mod_eq_of_lt (by simpa [IntKind.bits] using hx)
  have e4 : c.toNat % 2 ^ (IntKind.bits .u64) = c.toNat := Nat.mod_eq_of_lt (by simp [IntKind.bits]; omega)
  rw [e3, e4]
  have hlt : x ^^^ c.toNat < 2 ^ 64 := Nat.xor_lt_two_pow (by omega) (by omega)
  unfold hstep
  generalize x ^^^ c.toNat = y at *
  omega
theorem hstep_lt (h : Nat) (c : UInt8) : hstep h c < 18446744073709551616 := Nat.mod_lt _ (by omega)
theorem hashL_eq (l : List UInt8) : hashL l = l.foldl hstep 14695981039346656037 := rfl
theorem hash_loop {h : H} {s : Sl} {l : List UInt8} {z : Nat} {Q : Int -> H -> Prop} (rd : Reads h s 1 (l.flatMap cU)) (hl : l.length <= 9223372036854775807) (k : Q (z : Int) h) :
    ∀ (m i : Nat) (x : Nat), i <= l.length -> l.length - i < m -> x < 18446744073709551616 -> (l.drop i).foldl hstep x = z -> F.xbi.l1 Q m (x : Int) s (s.len : Int) (i : Int) h
  | 0, i, x, h1, h2, _, _ => by omega
  | m + 1, i, x, h1, h2, hlt, hx => by
    unfold F.xbi.l1
    have hlen := rd_len cU_len (by omega) rd
    rw [hlen]
    simp only [decide_eq_true_eq, decide_eq_false_iff_not]
    refine ⟨fun g => ?_, fun g => ?_⟩
    · obtain ⟨c, hc⟩ : ∃ c, l[i]? = some c := ⟨_, List.getElem?_eq_getElem (by omega)⟩
      obtain ⟨p, q1, q2, q3⟩ := rd_at cU_len (by omega) rd hc
      refine idxR_of q1 (by omega) rfl ?_
      rw [ldI_iff (by have := q3.one; rwa [Nat.mul_one] at this ⊢), hash_step c hlt, w64 (by omega) (by omega)]
      have := hash_loop rd hl k m (i + 1) (hstep x c) (by omega) (by omega) (hstep_lt x c) (by
        rw [← hx, List.drop_eq_getElem_cons (show i < l.length by omega), List.foldl_cons]
        have : l[i] = c := by have := (List.getElem?_eq_some_iff.1 hc).2; exact this
        rw [this])
      rw [hlen] at this
      exact this
    · have : i = l.length := by omega
      subst this
      rw [List.drop_length] at hx
      cases hx
      exact k
theorem Hash_spec {h : H} {key : ByteArray} {Q : Int -> H -> Prop} (hk : key.size <= 9223372036854775807) (k : ∀ h', Ext h h' -> Q ((hashM key : Nat) : Int) h') : F.xbi key h Q := by
  unfold F.xbi
  refine cvtL_of Tryz.underlying9 el_Sluint8.slice Tryz.underlying5 fun r h' rd hc e _ => ?_
  refine ⟨key.data.toList.length + 1, ?_⟩
  have := hash_loop (Q := Q) (z := hashM key) rd (by rw [← size_data]; exact hk) (k h' e) (key.data.toList.length + 1) 0 14695981039346656037 (by omega) (by omega) (by omega) (by rw [List.drop_zero]; unfold hashM; rw [hashL_eq])
  exact this
abbrev SmallK (k : ByteArray) : Prop := k.size <= 9223372036854775807
abbrev BIG : Nat := 1099511627776
theorem probe_lt {α : Type} {R : List (Pl α)} {key : ByteArray} : ∀ (f i : Nat) (r : Nat × Bool), probe R key f i = some r -> r.1 < R.length
  | 0, i, r, h => by cases h
  | f + 1, i, r, h => by
    unfold probe at h
    cases hp : R[i]? with
    | none => rw [hp] at h; cases h
    | some p =>
      have hi := (List.getElem?_eq_some_iff.1 hp).1
      rw [hp] at h
      simp only at h
      split at h
      · cases h; exact hi
      · split at h
        · cases h; exact hi
        · exact probe_lt f _ r h
theorem find_lt {α : Type} {R : List (Pl α)} {key : ByteArray} {r : Nat × Bool} (h0 : R ≠ []) (h : findM R key = some r) : r.1 < R.length := by
  unfold findM at h
  rw [if_neg (fun e => h0 (List.eq_nil_of_length_eq_zero e))] at h
  exact probe_lt _ _ _ h
def WB (h : H) (n : Nat) (e : TypeId) : Prop := ∃ c, Blk h n c e
theorem WB.ne {h : H} {a b : Nat} {e e' : TypeId} (x : WB h a e) (y : WB h b e') (n : e ≠ e') : a ≠ b := fun hab => by
  obtain ⟨c, hc⟩ := x
  obtain ⟨d, hd⟩ := y
  subst hab
  unfold Blk at hc hd
  rw [hc] at hd
  simp at hd
  exact n hd.2
theorem Owns.typ {h : H} {s : Sl} {e : TypeId} {size : Nat} {cs : List Value} (o : Owns h s e size cs) {b : Nat} (hb : s.blk = some b) : WB h b e := by
  obtain ⟨_, ⟨h1, _⟩ | ⟨b', c', h1, h2, _⟩⟩ := o
  · simp [Sl.blk, h1] at hb
  · simp [Sl.blk, h1] at hb; subst hb; exact ⟨c', h2⟩
def KB {α : Type} (R : List (Pl α)) : Prop := ∀ (i : Nat) (p : Pl α), R[i]? = some p -> SmallK p.key
theorem KB.set {α : Type} {R : List (Pl α)} (k : KB R) {i : Nat} {p : Pl α} (hp : SmallK p.key) : KB (R.set i p) := fun j q hq => by
  rcases set_get hq with ⟨_, rfl, _⟩ | ⟨_, hq⟩
  · exact hp
  · exact k j q hq
def FT (n : Nat) (rs es : Sl) (b : Nat) : Prop := b = n ∨ rs.blk = some b ∨ es.blk = some b
structure Stp (h : H) (n : Nat) (rs es : Sl) (h' : H) (rs' es' : Sl) : Prop where
  only : Only (FT n rs es) h h'
  new : ∀ b, FT n rs' es' b -> FT n rs es b ∨ h.size <= b
theorem Stp.refl (h : H) (n : Nat) (rs es : Sl) : Stp h n rs es h rs es := ⟨.refl _, fun b hb => .inl hb⟩
theorem Stp.trans {h h' h'' : H} {n : Nat} {rs es rs' es' rs'' es'' : Sl} (a : Stp h n rs es h' rs' es') (b : Stp h' n rs' es' h'' rs'' es'') : Stp h n rs es h'' rs'' es'' :=
  ⟨a.only.trans b.only fun m hm hf => (a.new m hf).resolve_right (by omega), fun m hm => by
    rcases b.new m hm with h1 | h1
    · exact a.new m h1
    · exact .inr (Nat.le_trans a.only.size h1)⟩
theorem Stp.ext {h h' h'' : H} {n : Nat} {rs es rs' es' : Sl} (a : Stp h n rs es h' rs' es') (e : Ext h' h'') : Stp h n rs es h'' rs' es' := ⟨a.only.ext e, a.new⟩
theorem Stp.of_ext {h h' : H} {n : Nat} {rs es : Sl} (e : Ext h h') : Stp h n rs es h' rs es := ⟨e.only, fun b hb => .inl hb⟩
theorem made3 (a b c : Value) (n : Nat) : (madeCells #[a, b, c] (n * 3)).toList = (List.replicate n [a, b, c]).flatten := by
    apply List.ext_getElem?
    intro j
    have hfl : (List.replicate n [a, b, c]).flatten = (List.replicate n ()).flatMap fun _ => [a, b, c] := by
      rw [List.flatMap, List.map_replicate]
    rw [hfl]
    by_cases hj : j < n * 3
    · have hd : j = (j / 3) * 3 + j % 3 := by omega
      have hu : (List.replicate n ())[j / 3]? = some () := by rw [List.getElem?_replicate, if_pos (by omega)]
      have := flat_get (fun _ : Unit => [a, b, c]) 3 (fun _ => rfl) (List.replicate n ()) (j / 3) () hu (j % 3) (by omega)
      rw [← hd] at this
      rw [this]
      simp only [madeCells, Array.getElem?_toList]
      have hm : j % 3 < 3 := by omega
      simp [hj]
      rcases (show j % 3 = 0 ∨ j % 3 = 1 ∨ j % 3 = 2 by omega) with h | h | h <;> simp [h]
    · rw [List.getElem?_eq_none (by simp [size_madeCells]; omega), List.getElem?_eq_none (by rw [flat_len _ 3 (fun _ => rfl)]; simp; omega)]
theorem KB.nil {α : Type} : KB ([] : List (Pl α)) := fun i p hp => by simp at hp
theorem set3 {cs : List Value} {o : Nat} {a b v : Value} (ha : cs[o]? = some a) (hb : cs[o + 1]? = some b) : cs.take (o + 2) ++ [v] ++ cs.drop (o + 2 + [v].length) = cs.take o ++ [a, b, v] ++ cs.drop (o + [a, b, v].length) := by
  rw [List.take_add_one (i := o + 1), List.take_add_one (i := o), ha, hb]
  simp
theorem tmod_dist {n a k : Nat} (ha : a < n) (hk : k < n) (hn : n <= BIG) : Int.tmod (IntKind.wrap .i64 (IntKind.wrap .i64 ((k : Int) - (a : Int)) + (n : Int))) (n : Int) = ((dist n a k : Nat) : Int) := by
  simp only [BIG] at hn
  rw [w64 (n := (k : Int) - (a : Int)) (by omega) (by omega), w64 (by omega) (by omega), show (k : Int) - (a : Int) + (n : Int) = ((k + n - a : Nat) : Int) from by omega, ← Int.ofNat_tmod]
  congr 1
  unfold dist
  split
  · rw [show k + n - a = k - a + n from by omega, Nat.add_mod_right, Nat.mod_eq_of_lt (by omega)]
  · rw [Nat.mod_eq_of_lt (by omega)]
theorem next_tmod {n k : Nat} (hk : k < n) (hn : n <= BIG) : Int.tmod (IntKind.wrap .i64 ((k : Int) + 1)) (n : Int) = (((k + 1) % n : Nat) : Int) := by
  simp only [BIG] at hn
  rw [w64 (by omega) (by omega), show (k : Int) + 1 = ((k + 1 : Nat) : Int) from by omega, ← Int.ofNat_tmod]
theorem put_only (h : H) (l : Nat) (o : Obj) : Only (· = l) h (put h l o) := ⟨by simp [put], fun b hb hn => by
  unfold put
  rw [Array.getElem?_setIfInBounds_ne (fun e => hn e.symm)]⟩
theorem putAt_ {h : H} {l : Nat} {o o' : Obj} (hl : h[l]? = some o') : (put h l o)[l]? = some o := by
  have := (Array.getElem?_eq_some_iff.1 hl).1
  unfold put
  rw [Array.getElem?_setIfInBounds_self_of_lt this]
theorem nodup_len : ∀ {E L : List Nat}, E.Nodup -> (∀ e ∈ E, e ∈ L) -> E.length <= L.length
  | [], L, _, _ => Nat.zero_le _
  | e :: E, L, h, hs => by
    rw [List.nodup_cons] at h
    have he := hs e (by simp)
    have := nodup_len (E := E) (L := L.erase e) h.2 fun x hx => (List.mem_erase_of_ne (show x ≠ e from fun hxe => h.1 (by rw [← hxe]; exact hx))).2 (hs x (by simp [hx]))
    rw [List.length_erase_of_mem he] at this
    have hpos : 0 < L.length := List.length_pos_of_mem he
    simp only [List.length_cons]; omega
structure KG (h : H) (o b : Nat) (M D : List (ByteArray × Value)) (h' : H) : Prop where
  ext : Ext h h'
  box : ∃ s : Sl, Blk h' o #[s.enc] tn_Slstring ∧ Owns h' s 9 1 ((D.map (·.1)).flatMap cT) ∧ ∀ n, s.blk = some n -> o + 4 <= n
  dfr : h'[o + 1]? = some (.deferred (some []))
  it : ItH h' (o + 3) b M D
  size : o + 3 < h'.size
theorem KG.only {h h' h'' : H} {o b : Nat} {M D : List (ByteArray × Value)} (k : KG h o b M D h') (ho : h.size <= o) (hb : b < o) (e : Only (· = o + 2) h' h'') : KG h o b M D h'' := by
  obtain ⟨s, s1, s2, s3⟩ := k.box
  exact ⟨k.ext.step e fun n hn hf => by omega, ⟨s, e.block s1 (by omega), s2.only e fun n hn hf => by have := s3 n hn; omega, s3⟩, e.block k.dfr (by omega), k.it.only e (by omega) (by omega), by have := k.size; have := e.size; omega⟩
theorem put_new {M : List (ByteArray × Value)} {k : ByteArray} {v : Value} (h : k ∉ M.map (·.1)) : putK M k v = M ++ [(k, v)] := by
  unfold putK
  have : (M.findIdx? fun p => k == p.1) = none := by
    rw [List.findIdx?_eq_none_iff]
    intro p hp
    exact ba_ne fun e => h (List.mem_map.2 ⟨p, hp, e.symm⟩)
  rw [this]
theorem getK_mem {M : List (ByteArray × Value)} {k : ByteArray} {v : Value} (hn : (M.map (·.1)).Nodup) (h : (k, v) ∈ M) : getK M k = some v := by
  induction M with
  | nil => cases h
  | cons p M ih =>
    rw [List.map_cons, List.nodup_cons] at hn
    unfold getK
    rw [List.find?_cons]
    rcases List.mem_cons.1 h with rfl | h
    · simp [ba_self]
    · have : ¬ k = p.1 := fun e => hn.1 (List.mem_map.2 ⟨(k, v), h, e⟩)
      rw [ba_ne this]
      exact ih hn.2 h
theorem sortT_perm {A B : List ByteArray} (h : A.Perm B) : sortT A = sortT B := by
  unfold sortT
  rw [show ((A.map fun s => s.data.toList).mergeSort fun x y => decide (x <= y)) = ((B.map fun s => s.data.toList).mergeSort fun x y => decide (x <= y)) from mergeSort_of_perm (h.map _)]
theorem sortT_mem {A : List ByteArray} {k : ByteArray} : k ∈ sortT A ↔ k ∈ A := by
  unfold sortT
  rw [List.mem_map]
  constructor
  · rintro ⟨l, hl, rfl⟩
    have := (List.mergeSort_perm _ _).mem_iff.1 hl
    obtain ⟨s, hs, rfl⟩ := List.mem_map.1 this
    simpa using hs
  · intro h
    exact ⟨k.data.toList, (List.mergeSort_perm _ _).mem_iff.2 (List.mem_map.2 ⟨k, h, rfl⟩), by simp⟩
def SQF (ka ma b : Nat) (r : Sl) (n : Nat) : Prop := n = ka ∨ n = ma ∨ n = b ∨ r.blk = some n
end Go.Proofs.YtjjchpaomgmmdaaGreat.V
namespace Go.Proofs.YtjjchpaomgmmdaaGreat.V.P
open Go Go.Proofs.YtjjchpaomgmmdaaGreat.V
set_option linter.unusedVariables false
set_option linter.unusedSimpArgs false
set_option maxRecDepth 20000
abbrev nilA : Option Addr := none
abbrev cP (p : Pl (Option Addr)) : List Value := [.int .u8 (p.is_ : Int), .string p.key, .pointer p.value]
theorem cP_len (p : Pl (Option Addr)) : (cP p).length = 3 := rfl
theorem home_spec {h : H} {s : Sl} {α : Type} {R : List (Pl α)} {key : ByteArray} {Q : Int -> H -> Prop} (hs : s.len = R.length) (h0 : 0 < R.length) (hb : R.length <= BIG) (hk : SmallK key) (k : ∀ h', Ext h h' -> Q ((homeM R key : Nat) : Int) h') : F.xck s key h Q := by
  unfold F.xck
  refine Hash_spec hk fun h1 e1 => ?_
  have hw : IntKind.wrap .u64 (s.len : Int) = ((R.length : Nat) : Int) := by rw [wrap_u64, hs]; simp only [BIG] at hb; omega
  rw [hw]
  refine ⟨by omega, ?_⟩
  rw [← Int.ofNat_tmod]
  have hl := home_lt (R := R) (key := key) h0
  unfold homeM at hl
  rw [w64 (by omega) (by simp only [BIG] at hb; omega)]
  exact k h1 e1
theorem probe_loop {h : H} {s : Sl} {R : List (Pl (Option Addr))} {key : ByteArray} {Q : Int -> Bool -> H -> Prop} (rd : Reads h s 3 (R.flatMap cP)) (hb : R.length <= BIG) :
    ∀ (f i : Nat) (r : Nat × Bool), probe R key f i = some r -> Q ((r.1 : Nat) : Int) r.2 h -> F.xag.l1 Q f s key (i : Int) h
  | 0, i, r, hp, k => by cases hp
  | f + 1, i, r, hp, k => by
    unfold probe at hp
    unfold F.xag.l1
    have hlen := rd_len cP_len (by omega) rd
    cases hpi : R[i]? with
    | none => rw [hpi] at hp; cases hp
    | some p =>
      have hi := (List.getElem?_eq_some_iff.1 hpi).1
      rw [hpi] at hp
      simp only at hp
      obtain ⟨a, q1, q2, q3⟩ := rd_at cP_len (by omega) rd hpi
      have c0 := q3 0 _ rfl
      have c1 := q3 1 _ rfl
      refine idxR_of q1 (by omega) rfl ?_
      rw [ldI_iff c0]
      simp only [bne_iff_ne, ne_eq, bne_eq_false_iff_eq, beq_iff_eq, beq_eq_false_iff_ne]
      by_cases h0 : p.is_ = 0
      · rw [if_pos h0] at hp
        cases hp
        exact ⟨fun g => absurd (by omega) g, fun _ => k⟩
      · rw [if_neg h0] at hp
        refine ⟨fun _ => ?_, fun g => absurd g (by omega)⟩
        refine idxR_of q1 (by omega) rfl ?_
        rw [ldI_iff c0]
        have next : ∀ (x : Bool), ¬ (x = true) -> ¬ (p.is_ = 1 ∧ kL p.key = kL key) -> F.xag.j3 Q (F.xag.l1 Q f) s key (i : Int) x h := fun x hx hn => by
          rw [if_neg hn] at hp
          unfold F.xag.j3
          refine ⟨fun g => absurd g hx, fun _ => ?_⟩
          unfold F.xag.j2
          simp only [BIG] at hb
          refine ⟨by omega, ?_⟩
          rw [w64 (by omega) (by omega), hlen, show (i : Int) + 1 = ((i + 1 : Nat) : Int) from by omega, ← Int.ofNat_tmod]
          exact probe_loop rd hb f _ r hp k
        refine ⟨fun g => ?_, fun g => ?_⟩
        · refine idxR_of q1 (by omega) rfl ?_
          rw [ldS_iff c1, toList_data, toList_data]
          by_cases hk : kL p.key = kL key
          · rw [if_pos ⟨by omega, hk⟩] at hp
            cases hp
            rw [show (p.key.data.toList == key.data.toList) = true from by simpa using hk]
            exact ⟨fun _ => k, fun h => by cases h⟩
          · rw [show (p.key.data.toList == key.data.toList) = false from by simpa using hk]
            exact next _ (by simp) fun h => hk h.2
        · exact next _ (by simp) fun h => g (by omega)
theorem find_spec {h : H} {s : Sl} {R : List (Pl (Option Addr))} {key : ByteArray} {Q : Int -> Bool -> H -> Prop} {r : Nat × Bool} (rd : Reads h s 3 (R.flatMap cP)) (hb : R.length <= BIG) (hk : SmallK key) (hf : findM R key = some r) (k : ∀ h', Ext h h' -> Q ((r.1 : Nat) : Int) r.2 h') : F.xag s key h Q := by
  unfold F.xag
  unfold findM at hf
  have hlen := rd_len cP_len (by omega) rd
  simp only [beq_iff_eq, beq_eq_false_iff_ne]
  by_cases h0 : R.length = 0
  · rw [if_pos h0] at hf
    cases hf
    exact ⟨fun _ => k h (.refl _), fun g => absurd (by omega) g⟩
  · rw [if_neg h0] at hf
    refine ⟨fun g => absurd g (by omega), fun _ => ?_⟩
    refine home_spec (R := R) hlen (by omega) hb hk fun h1 e1 => ?_
    exact ⟨R.length + 1, probe_loop (rd.ext e1) hb _ _ r hf (k h1 e1)⟩
structure TH (h : H) (n : Nat) (rs es : Sl) (T : Tb (Option Addr)) : Prop where
  tb : Blk h n #[rs.enc, es.enc, .int .i64 (T.moved : Int), .int .i64 (T.count : Int)] tn_table_Table_chain_Chain_api_Agg
  row : Owns h rs tn_table_place_chain_Chain_api_Agg 3 (T.row.flatMap cP)
  el : Owns h es tn_table_place_chain_Chain_api_Agg 3 (T.elder.flatMap cP)
  ne : ∀ b, rs.blk = some b -> es.blk ≠ some b
  kr : KB T.row
  ke : KB T.elder
  pos : T.row ≠ []
  br : T.row.length <= BIG
  be : T.elder.length <= BIG
  bc : T.count <= BIG
  bm : T.moved <= T.elder.length
section
variable {h h' : H} {n : Nat} {rs es : Sl} {T : Tb (Option Addr)}
theorem TH.c0 (t : TH h n rs es T) : cellH h ⟨n, 0, none⟩ = some rs.enc := t.tb.cell rfl
theorem TH.c1 (t : TH h n rs es T) : cellH h ⟨n, 1, none⟩ = some es.enc := t.tb.cell rfl
theorem TH.c2 (t : TH h n rs es T) : cellH h ⟨n, 2, none⟩ = some (.int .i64 (T.moved : Int)) := t.tb.cell rfl
theorem TH.c3 (t : TH h n rs es T) : cellH h ⟨n, 3, none⟩ = some (.int .i64 (T.count : Int)) := t.tb.cell rfl
theorem TH.nr (t : TH h n rs es T) : ∀ b, rs.blk = some b -> b ≠ n := fun b hb => (t.row.typ hb).ne ⟨_, t.tb⟩ (by decide)
theorem TH.nel (t : TH h n rs es T) : ∀ b, es.blk = some b -> b ≠ n := fun b hb => (t.el.typ hb).ne ⟨_, t.tb⟩ (by decide)
theorem TH.rlen (t : TH h n rs es T) : rs.len = T.row.length := own_len cP_len (by omega) t.row
theorem TH.elen (t : TH h n rs es T) : es.len = T.elder.length := own_len cP_len (by omega) t.el
theorem TH.lt (t : TH h n rs es T) : ∀ b, FT n rs es b -> b < h.size := fun b hb => by
  rcases hb with rfl | hb | hb
  · exact block_lt t.tb
  · exact t.row.blk_lt hb
  · exact t.el.blk_lt hb
theorem TH.only (t : TH h n rs es T) {S : Nat -> Prop} (o : Only S h h') (hn : ∀ b, FT n rs es b -> ¬ S b) : TH h' n rs es T :=
  ⟨o.block t.tb (hn n (.inl rfl)), t.row.only o fun b hb => hn b (.inr (.inl hb)), t.el.only o fun b hb => hn b (.inr (.inr hb)), t.ne, t.kr, t.ke, t.pos, t.br, t.be, t.bc, t.bm⟩
theorem TH.ext (t : TH h n rs es T) (e : Ext h h') : TH h' n rs es T := t.only e fun _ _ f => f
theorem TH.set_row (t : TH h n rs es T) {i b : Nat} {p : Pl (Option Addr)} {K : H -> Prop} (hp : rs.ptr = some ⟨b, 0, none⟩) (hi : i < T.row.length) (hk : SmallK p.key)
    (k : ∀ h', TH h' n rs es { T with row := T.row.set i p } -> Stp h n rs es h' rs es -> K h') : stH h ⟨b, i * 3, none⟩ (cP p) K :=
  own_setAt cP_len t.row hp hi fun h1 o1 e1 _ => k h1 ⟨e1.block t.tb fun hb => t.nr _ hb rfl, o1, t.el.only e1 fun b' hb hb' => t.ne b' hb' hb, t.ne, t.kr.set hk, t.ke, by
    have := t.pos; intro hnil; exact this (by simpa using hnil), by simpa using t.br, t.be, t.bc, t.bm⟩ ⟨e1.mono fun b' _ hb => .inr (.inl hb), fun b' hb => .inl hb⟩
theorem TH.set_el (t : TH h n rs es T) {i b : Nat} {p : Pl (Option Addr)} {K : H -> Prop} (hp : es.ptr = some ⟨b, 0, none⟩) (hi : i < T.elder.length) (hk : SmallK p.key)
    (k : ∀ h', TH h' n rs es { T with elder := T.elder.set i p } -> Stp h n rs es h' rs es -> K h') : stH h ⟨b, i * 3, none⟩ (cP p) K :=
  own_setAt cP_len t.el hp hi fun h1 o1 e1 _ => k h1 ⟨e1.block t.tb fun hb => t.nel _ hb rfl, t.row.only e1 fun b' hb hb' => t.ne b' hb hb', o1, t.ne, t.kr, t.ke.set hk, t.pos, t.br, by simpa using t.be, t.bc, by simpa using t.bm⟩ ⟨e1.mono fun b' _ hb => .inr (.inr hb), fun b' hb => .inl hb⟩
theorem TH.row_at (t : TH h n rs es T) {i : Nat} {p : Pl (Option Addr)} (hp : T.row[i]? = some p) : ∃ b, rs.ptr = some ⟨b, 0, none⟩ ∧ Cells h ⟨b, i * 3, none⟩ (cP p) := own_at cP_len (by omega) t.row hp
theorem TH.el_at (t : TH h n rs es T) {i : Nat} {p : Pl (Option Addr)} (hp : T.elder[i]? = some p) : ∃ b, es.ptr = some ⟨b, 0, none⟩ ∧ Cells h ⟨b, i * 3, none⟩ (cP p) := own_at cP_len (by omega) t.el hp
theorem TH.stn (t : TH h n rs es T) {j : Nat} {v : Value} {K : H -> Prop} (hj : j < 4)
    (k : ∀ h', Blk h' n ((#[rs.enc, es.enc, .int .i64 (T.moved : Int), .int .i64 (T.count : Int)] : Array Value).setIfInBounds j v) tn_table_Table_chain_Chain_api_Agg -> Only (· = n) h h' -> Owns h' rs tn_table_place_chain_Chain_api_Agg 3 (T.row.flatMap cP) -> Owns h' es tn_table_place_chain_Chain_api_Agg 3 (T.elder.flatMap cP) -> K h') : stH h ⟨n, j, none⟩ [v] K :=
  stH_of t.tb (by show j + 1 <= 4; omega) fun h1 b1 e1 _ => k h1 b1 e1 (t.row.only e1 fun b hb hn => t.nr b hb hn) (t.el.only e1 fun b hb hn => t.nel b hb hn)
theorem TH.st_moved (t : TH h n rs es T) {m : Nat} {x : Int} {K : H -> Prop} (hx : x = (m : Int)) (hm : m <= T.elder.length) (k : ∀ h', TH h' n rs es { T with moved := m } -> Stp h n rs es h' rs es -> K h') : stH h ⟨n, 2, none⟩ [.int .i64 x] K := by
  subst hx
  exact t.stn (by omega) fun h1 b1 e1 o1 o2 => k h1 ⟨b1, o1, o2, t.ne, t.kr, t.ke, t.pos, t.br, t.be, t.bc, hm⟩ ⟨e1.mono fun b _ hb => .inl hb, fun b hb => .inl hb⟩
theorem TH.st_count (t : TH h n rs es T) {m : Nat} {x : Int} {K : H -> Prop} (hx : x = (m : Int)) (hm : m <= BIG) (k : ∀ h', TH h' n rs es { T with count := m } -> Stp h n rs es h' rs es -> K h') : stH h ⟨n, 3, none⟩ [.int .i64 x] K := by
  subst hx
  exact t.stn (by omega) fun h1 b1 e1 o1 o2 => k h1 ⟨b1, o1, o2, t.ne, t.kr, t.ke, t.pos, t.br, t.be, hm, t.bm⟩ ⟨e1.mono fun b _ hb => .inl hb, fun b hb => .inl hb⟩
theorem Left_spec (t : TH h n rs es T) {Q : Int -> H -> Prop} (k : Q ((leftT T : Nat) : Int) h) : F.xcw (some ⟨n, 0, none⟩) h Q := by
  unfold F.xcw
  simp only [nn_some, add_lit, Nat.zero_add]
  rw [ldL_iff t.c1, ldI_iff t.c2, t.elen]
  have := t.bm
  have := t.be
  simp only [BIG] at this
  rw [w64 (by omega) (by omega)]
  rw [show ((leftT T : Nat) : Int) = (T.elder.length : Int) - (T.moved : Int) from by unfold leftT; omega] at k
  exact k
end
theorem Move_loop {n : Nat} {Q : Int -> H -> Prop} : ∀ (m : Nat) (h : H) (rs es : Sl) (T T1 : Tb (Option Addr)) (x1 : Int), TH h n rs es T -> moveN nilA x1.toNat T = some T1 -> x1 < 9223372036854775808 -> x1.toNat < m ->
    (∀ h' es', TH h' n rs es' (finT T1) -> Stp h n rs es h' rs es' -> Q ((leftT (finT T1) : Nat) : Int) h') -> F.xac.l1 Q m (some ⟨n, 0, none⟩) x1 h
  | 0, h, rs, es, T, T1, x1, t, hm, hx, hf, k => by omega
  | m + 1, h, rs, es, T, T1, x1, t, hm, hx, hf, k => by
    unfold F.xac.l1
    simp only [nn_some, add_lit, Nat.zero_add]
    rw [ldI_iff t.c2, ldL_iff t.c1, t.elen]
    have hbe := t.be
    simp only [BIG] at hbe
    have stop : ∀ C1, T1 = T -> F.xac.j5 Q C1 (some ⟨n, 0, none⟩) x1 false h := fun C1 e => by
      subst e
      unfold F.xac.j5
      refine ⟨(fun h => by cases h), fun _ => ?_⟩
      simp only [nn_some, add_lit, Nat.zero_add]
      rw [ldI_iff t.c2, ldL_iff t.c1, t.elen]
      simp only [beq_iff_eq, beq_eq_false_iff_ne]
      unfold F.xac.j6
      refine ⟨fun g => ?_, fun g => ?_⟩
      · refine t.stn (by omega) fun h1 b1 e1 o1 o2 => ?_
        have hfin : finT T1 = ⟨T1.row, [], 0, T1.count⟩ := by unfold finT; rw [if_pos (by omega)]
        refine stH_of b1 (by simp) fun h2 b2 e2 _ => ?_
        have t2 : TH h2 n rs ⟨none, 0, 0⟩ (finT T1) := by
          rw [hfin]
          exact ⟨b2, o1.only e2 fun b hb hn => t.nr b hb hn, Owns.nil _ _ _, fun b hb => by simp [Sl.blk], t.kr, fun i p hi => by simp at hi, t.pos, t.br, by simp, t.bc, by simp⟩
        have s2 : Stp h n rs es h2 rs ⟨none, 0, 0⟩ := ⟨(e1.mono fun b _ hb => .inl hb).trans (e2.mono fun b _ hb => .inl hb) fun _ _ hb => hb, fun b hb => by
          rcases hb with hb | hb | hb
          · exact .inl (.inl hb)
          · exact .inl (.inr (.inl hb))
          · simp [Sl.blk] at hb⟩
        exact Left_spec t2 (k h2 _ t2 s2)
      · have hfin : finT T1 = T1 := by unfold finT; rw [if_neg (by omega)]
        have t2 : TH h n rs es (finT T1) := by rw [hfin]; exact t
        exact Left_spec t2 (k h _ t2 (.refl _ _ _ _))
    by_cases hx0 : x1 > 0
    · refine ⟨fun _ => ?_, fun g => by simp at g; omega⟩
      obtain ⟨c, hc⟩ : ∃ c, x1.toNat = c + 1 := ⟨x1.toNat - 1, by omega⟩
      rw [hc] at hm
      unfold moveN at hm
      by_cases hlt : T.moved < T.elder.length
      · rw [if_pos hlt] at hm
        rw [show decide ((T.moved : Int) < (T.elder.length : Int)) = true from by simpa using hlt]
        unfold F.xac.j5
        refine ⟨fun _ => ?_, fun h => by cases h⟩
        unfold F.xac.j2
        simp only [nn_some, add_lit, Nat.zero_add]
        obtain ⟨p, hp⟩ : ∃ p, T.elder[T.moved]? = some p := ⟨_, List.getElem?_eq_getElem hlt⟩
        obtain ⟨be, q1, q2⟩ := t.el_at hp
        have step : ∀ (h1 : H) (T2 : Tb (Option Addr)), TH h1 n rs es T2 -> Stp h n rs es h1 rs es -> T2.moved = T.moved -> T2.elder.length = T.elder.length -> moveN nilA c { T2 with moved := T2.moved + 1 } = some T1 -> F.xac.j4 Q (F.xac.l1 Q m) (some ⟨n, 0, none⟩) x1 h1 := fun h1 T2 t2 s2 em el hm2 => by
          unfold F.xac.j4
          simp only [nn_some, add_lit, Nat.zero_add]
          rw [ldI_iff t2.c2]
          refine t2.st_moved (m := T2.moved + 1) (by rw [w64 (by omega) (by omega)]; omega) (by omega) fun h2 t3 s3 => ?_
          unfold F.xac.j3
          rw [w64 (by omega) (by omega)]
          refine Move_loop m h2 rs es _ T1 (x1 - 1) t3 ?_ (by omega) (by omega) fun h' es' t4 s4 => k h' es' t4 ((s2.trans s3).trans s4)
          rw [show (x1 - 1).toNat = c from by omega]
          exact hm2
        rw [ldL_iff t.c1, ldI_iff t.c2]
        refine idxA_of q1 (by rw [t.elen]; exact hlt) rfl ?_
        have c0 := q2 0 _ rfl
        have c1 := q2 1 _ rfl
        rw [ldI_iff c0]
        unfold move1 at hm
        rw [hp] at hm
        simp only at hm
        simp only [beq_iff_eq, beq_eq_false_iff_ne]
        by_cases h1 : p.is_ = 1
        · rw [if_pos h1] at hm
          refine ⟨fun _ => ?_, fun g => absurd (by omega) g⟩
          cases hfr : findM T.row p.key with
          | none => rw [hfr] at hm; cases hm
          | some r =>
            rw [hfr] at hm
            simp only at hm
            rw [ldL_iff t.c0, ldS_iff c1]
            refine find_spec t.row.reads t.br (t.ke _ p hp) hfr fun h1 e1 => ?_
            have t1 := t.ext e1
            rw [ldL_iff t1.c0]
            have q3 : Cells h1 ⟨be, T.moved * 3, none⟩ (cP p) := q2.ext e1
            refine ⟨⟨(p.is_ : Int), p.key, p.value⟩, q3, ?_⟩
            have hr := find_lt t.pos hfr
            obtain ⟨br, u1, _⟩ := t1.row_at (List.getElem?_eq_getElem hr)
            refine idxA_of u1 (by rw [t.rlen]; exact hr) rfl ?_
            refine t1.set_row u1 hr (t.ke _ p hp) fun h2 t2 s2 => ?_
            refine t2.set_el (p := goneP nilA) (i := T.moved) q1 hlt (by show (0 : Nat) <= _; decide) fun h3 t3 s3 => ?_
            exact step h3 _ t3 ((Stp.of_ext e1).trans (s2.trans s3)) rfl (by simp) hm
        · rw [if_neg h1] at hm
          refine ⟨fun g => absurd (by omega) h1, fun _ => ?_⟩
          exact step h T t (.refl _ _ _ _) rfl rfl hm
      · rw [if_neg hlt] at hm
        rw [show decide ((T.moved : Int) < (T.elder.length : Int)) = false from by simpa using hlt]
        exact stop _ (Option.some.inj hm).symm
    · refine ⟨fun g => by simp at g; omega, fun _ => stop _ ?_⟩
      rw [show x1.toNat = 0 from by omega] at hm
      exact (Option.some.inj hm).symm
theorem Move_spec {h : H} {n : Nat} {rs es : Sl} {T T' : Tb (Option Addr)} {x : Int} {Q : Int -> H -> Prop} (t : TH h n rs es T) (hm : moveM nilA T x = some T') (hx : x < 9223372036854775808)
    (k : ∀ h' es', TH h' n rs es' T' -> Stp h n rs es h' rs es' -> Q ((leftT T' : Nat) : Int) h') : F.xac (some ⟨n, 0, none⟩) x h Q := by
  unfold moveM at hm
  cases h1 : moveN nilA x.toNat T with
  | none => rw [h1] at hm; cases hm
  | some T1 =>
    rw [h1] at hm
    cases hm
    exact ⟨x.toNat + 1, Move_loop _ h rs es T T1 x t h1 hx (by omega) k⟩
theorem elP : El PP tn_Sltable_place_chain_Chain_api_Agg tn_table_place_chain_Chain_api_Agg 3 32 (.agg #[.int .u8 0, .string ⟨#[]⟩, .pointer none]) := el_Sltable_place_chain_Chain_api_Agg
theorem made_rows (n : Nat) : (madeCells (Value.agg #[.int .u8 0, .string ⟨#[]⟩, .pointer none]).cells (n * 3)).toList = (List.replicate n (emptP nilA)).flatMap cP := by
  have := made3 (.int .u8 0) (.string ⟨#[]⟩) (.pointer none) n
  rw [List.flatMap, List.map_replicate]
  exact this
theorem KB.repl (n : Nat) : KB (List.replicate n (emptP nilA)) := fun i p hp => by
  obtain ⟨rfl, _⟩ := repl_get hp
  show (0 : Nat) <= _; omega
theorem New_spec {h : H} {Q : Option Addr -> H -> Prop} (k : ∀ h' n rs, TH h' n rs ⟨none, 0, 0⟩ (newT nilA) -> Ext h h' -> (∀ b, FT n rs ⟨none, 0, 0⟩ b -> h.size <= b) -> Q (some ⟨n, 0, none⟩) h') : F.xcy h Q := by
  unfold F.xcy
  refine make_of (n := 8) elP (by omega) (by simp [maxLen]) fun b h1 hb o1 e1 => ?_
  rw [made_rows] at o1
  refine new_of fun n h2 hn b2 e2 _ => ?_
  refine k h2 n _ ⟨b2, o1.ext e2, Owns.nil _ _ _, fun b hb => by simp [Sl.blk], KB.repl 8, KB.nil, by simp [newT], by simp [newT, BIG], by simp [newT], by simp [newT], by simp [newT]⟩ (e1.trans e2) fun b' hb' => ?_
  rcases hb' with h1 | h1 | h1
  · have := e1.size; omega
  · simp [Sl.blk] at h1; omega
  · simp [Sl.blk] at h1
section
variable {h : H} {n : Nat} {rs es : Sl} {T : Tb (Option Addr)} {key : ByteArray}
theorem where_spec {Q : Option Addr -> H -> Prop} (t : TH h n rs es T) (ok : TOk T) (hk : SmallK key)
    (k1 : ∀ h' i b, Ext h h' -> Hit T.row key i -> rs.ptr = some ⟨b, 0, none⟩ -> Q (some ⟨b, i * 3, none⟩) h')
    (k2 : ∀ h' i b, Ext h h' -> Hit T.elder key i -> (∀ j, ¬ Hit T.row key j) -> es.ptr = some ⟨b, 0, none⟩ -> Q (some ⟨b, i * 3, none⟩) h')
    (k3 : ∀ h', Ext h h' -> (∀ j, ¬ Hit T.row key j) -> (∀ j, ¬ Hit T.elder key j) -> Q none h') : F.xch (some ⟨n, 0, none⟩) key h Q := by
  unfold F.xch
  simp only [nn_some, add_lit, Nat.zero_add]
  rw [ldL_iff t.c0]
  have w := where_ok ok key
  unfold whereM at w
  cases hf : findM T.row key with
  | none => rw [hf] at w; rcases w with ⟨i, w, _⟩ | ⟨i, w, _⟩ | ⟨w, _⟩ <;> cases w
  | some r =>
    rw [hf] at w
    obtain ⟨i, b⟩ := r
    refine find_spec t.row.reads t.br hk hf fun h1 e1 => ?_
    have t1 := t.ext e1
    rw [ldL_iff t1.c0, ldL_iff t1.c1]
    cases b with
    | true =>
      refine ⟨fun _ => ?_, fun h => by cases h⟩
      rcases w with ⟨j, w, wh⟩ | ⟨j, w, _⟩ | ⟨w, _⟩
      · simp at w; subst w
        obtain ⟨p, hp, _⟩ := id wh
        obtain ⟨b, u1, _⟩ := t1.row_at hp
        exact idxA_of u1 (by rw [t.rlen]; exact wh.lt) rfl (k1 h1 _ b e1 wh u1)
      · cases w
      · cases w
    | false =>
      refine ⟨fun h => (by cases h), fun _ => ?_⟩
      simp only at w
      cases hg : findM T.elder key with
      | none => rw [hg] at w; rcases w with ⟨i, w, _⟩ | ⟨i, w, _⟩ | ⟨w, _⟩ <;> cases w
      | some r =>
        rw [hg] at w
        obtain ⟨i, b⟩ := r
        refine find_spec t1.el.reads t.be hk hg fun h2 e2 => ?_
        have t2 := t1.ext e2
        rw [ldL_iff t2.c1]
        cases b with
        | true =>
          refine ⟨fun _ => ?_, fun h => by cases h⟩
          rcases w with ⟨j, w, _⟩ | ⟨j, w, wh, wn⟩ | ⟨w, _⟩
          · simp at w
          · simp at w; subst w
            obtain ⟨p, hp, _⟩ := id wh
            obtain ⟨b, u1, _⟩ := t2.el_at hp
            exact idxA_of u1 (by rw [t.elen]; exact wh.lt) rfl (k2 h2 _ b (e1.trans e2) wh wn u1)
          · cases w
        | false =>
          refine ⟨fun h => (by cases h), fun _ => ?_⟩
          rcases w with ⟨j, w, _⟩ | ⟨j, w, _⟩ | ⟨w, w1, w2⟩
          · simp at w
          · simp at w
          · exact k3 h2 (e1.trans e2) w1 w2
theorem Get_spec {Q : Option Addr -> Bool -> H -> Prop} (t : TH h n rs es T) (ok : TOk T) (hk : SmallK key) (k : ∀ h', Ext h h' -> Q ((getM T key).getD nilA) (getM T key).isSome h') : F.xcl (some ⟨n, 0, none⟩) key h Q := by
  unfold F.xcl
  refine where_spec t ok hk (fun h1 i b e1 hh hb => ?_) (fun h1 i b e1 hh hn hb => ?_) (fun h1 e1 hn hne => ?_)
  · obtain ⟨p, g1, g2, g3⟩ := hh
    obtain ⟨b', u1, u2⟩ := (t.ext e1).row_at g1
    rw [hb] at u1; cases u1
    refine ⟨fun _ => ?_, fun h => by cases h⟩
    rw [nn_some, ldP_iff (u2 2 _ rfl)]
    have := k h1 e1
    rw [get_row ok g1 g2 g3] at this
    exact this
  · obtain ⟨p, g1, g2, g3⟩ := hh
    obtain ⟨b', u1, u2⟩ := (t.ext e1).el_at g1
    rw [hb] at u1; cases u1
    refine ⟨fun _ => ?_, fun h => by cases h⟩
    rw [nn_some, ldP_iff (u2 2 _ rfl)]
    have := k h1 e1
    rw [get_elder ok hn g1 g2 g3] at this
    exact this
  · refine ⟨fun h => (by cases h), fun _ => ?_⟩
    have := k h1 e1
    rw [get_none hn hne] at this
    exact this
theorem st_val {f : List (Pl (Option Addr))} {s : Sl} {i b : Nat} {p : Pl (Option Addr)} {v : Option Addr} {K : H -> Prop} (ow : Owns h s tn_table_place_chain_Chain_api_Agg 3 (f.flatMap cP)) (hp : s.ptr = some ⟨b, 0, none⟩) (hi : f[i]? = some p)
    (k : ∀ h', Owns h' s tn_table_place_chain_Chain_api_Agg 3 ((newP f i v).flatMap cP) -> Only (fun b => s.blk = some b) h h' -> K h') : stH h ⟨b, i * 3 + 2, none⟩ [.pointer v] K := by
  have hl := (List.getElem?_eq_some_iff.1 hi).1
  refine own_set ow hp (by rw [flat_len cP 3 cP_len]; simp; omega) fun h1 o1 e1 _ => k h1 ?_ e1
  have ha := flat_get cP 3 cP_len f i p hi 0 (by omega)
  have hb := flat_get cP 3 cP_len f i p hi 1 (by omega)
  rw [set3 (v := .pointer v) ha hb] at o1
  rw [newP_eq hi, flat_set cP 3 cP_len f i ⟨p.is_, p.key, v⟩ hl]
  exact o1
theorem newP_len {f : List (Pl (Option Addr))} {i : Nat} {v : Option Addr} : (newP f i v).length = f.length := by unfold newP; split <;> simp
theorem newP_kb {f : List (Pl (Option Addr))} {i : Nat} {v : Option Addr} (k : KB f) : KB (newP f i v) := by
  unfold newP
  split
  · exact k
  · rename_i p hp; exact k.set (k i p hp)
theorem lay_spec {v : Option Addr} {T' : Tb (Option Addr)} {Q : H -> Prop} (t : TH h n rs es T) (hk : SmallK key) (hl : layP T key v = some T') (hc : T'.count <= BIG) (k : ∀ h', TH h' n rs es T' -> Stp h n rs es h' rs es -> Q h') : F.xbj.j1 Q (some ⟨n, 0, none⟩) key v h := by
  unfold F.xbj.j1
  unfold layP at hl
  simp only [nn_some, add_lit, Nat.zero_add]
  rw [ldL_iff t.c0]
  cases hf : findM T.row key with
  | none => rw [hf] at hl; cases hl
  | some r =>
    rw [hf] at hl
    cases hl
    refine find_spec t.row.reads t.br hk hf fun h1 e1 => ?_
    have t1 := t.ext e1
    rw [ldL_iff t1.c0]
    have hr := find_lt t.pos hf
    obtain ⟨br, u1, _⟩ := t1.row_at (List.getElem?_eq_getElem hr)
    refine idxA_of u1 (by rw [t.rlen]; exact hr) rfl ?_
    refine t1.set_row (p := ⟨1, key, v⟩) u1 hr hk fun h2 t2 s2 => ?_
    rw [ldI_iff t2.c3]
    have hb : T.count + 1 <= BIG := hc
    simp only [BIG] at hb
    refine t2.st_count (m := T.count + 1) (by show IntKind.wrap .i64 ((T.count : Int) + 1) = _; rw [w64 (by omega) (by omega)]; omega) hc fun h3 t3 s3 => ?_
    exact k h3 t3 (((Stp.of_ext e1).trans s2).trans s3)
theorem Put_spec {v : Option Addr} {T' : Tb (Option Addr)} {Q : H -> Prop} (t : TH h n rs es T) (ok : TOk T) (hk : SmallK key) (hp : putM nilA T key v = some T') (hb : T'.row.length <= BIG) (hc : T'.count <= BIG)
    (k : ∀ h' rs' es', TH h' n rs' es' T' -> Stp h n rs es h' rs' es' -> Q h') : F.xbj (some ⟨n, 0, none⟩) key v h Q := by
  unfold F.xbj
  obtain ⟨T1, m1, ok1, m3, m4, m5, m6, m7⟩ := move_ok (z := nilA) ok 4
  unfold putM at hp
  rw [m1] at hp
  simp only at hp
  unfold putM' at hp
  have w := where_ok ok1 key
  refine Move_spec t m1 (by omega) fun h1 es1 t1 s1 => ?_
  refine where_spec t1 ok1 hk (fun h2 i b e2 hh hb2 => ?_) (fun h2 i b e2 hh hn hb2 => ?_) (fun h2 e2 hn hne => ?_)
  · refine ⟨fun _ => ?_, fun h => by cases h⟩
    rw [nn_some]
    have hw : whereM T1 key = some (some (false, i)) := by
      unfold whereM; rw [ok1.row.hit hh]
    rw [hw] at hp
    simp only at hp
    cases hp
    obtain ⟨p, g1, g2, g3⟩ := hh
    have t2 := t1.ext e2
    refine st_val t2.row hb2 g1 fun h3 o3 e3 => ?_
    exact k h3 _ _ ⟨e3.block t2.tb fun hb => t2.nr _ hb rfl, o3, t2.el.only e3 fun b' hb hb' => t2.ne b' hb' hb, t2.ne, newP_kb t2.kr, t2.ke, by
      intro hnil
      have := congrArg List.length hnil
      rw [newP_len] at this
      exact t2.pos (List.eq_nil_of_length_eq_zero this), by rw [newP_len]; exact t2.br, t2.be, t2.bc, t2.bm⟩ ((s1.ext e2).trans ⟨e3.mono fun b' _ hb => .inr (.inl hb), fun b' hb => .inl hb⟩)
  · refine ⟨fun _ => ?_, fun h => by cases h⟩
    rw [nn_some]
    have hw : whereM T1 key = some (some (true, i)) := by
      rcases w with ⟨j, w, wh⟩ | ⟨j, w, wh, _⟩ | ⟨w, _, wn⟩
      · exact absurd wh (hn j)
      · obtain ⟨p, a1, a2, a3⟩ := hh
        obtain ⟨q, b1, b2, b3⟩ := wh
        rw [w, ok1.elder.uniq i j p q a1 b1 a2 b2 (a3.trans b3.symm)]
      · exact absurd hh (wn i)
    rw [hw] at hp
    simp only at hp
    cases hp
    obtain ⟨p, g1, g2, g3⟩ := hh
    have t2 := t1.ext e2
    refine st_val t2.el hb2 g1 fun h3 o3 e3 => ?_
    exact k h3 _ _ ⟨e3.block t2.tb fun hb => t2.nel _ hb rfl, t2.row.only e3 fun b' hb hb' => t2.ne b' hb hb', o3, t2.ne, t2.kr, newP_kb t2.ke, t2.pos, t2.br, by rw [newP_len]; exact t2.be, t2.bc, by rw [newP_len]; exact t2.bm⟩ ((s1.ext e2).trans ⟨e3.mono fun b' _ hb => .inr (.inr hb), fun b' hb => .inl hb⟩)
  · refine ⟨fun h => (by cases h), fun _ => ?_⟩
    have hw : whereM T1 key = some none := by
      rcases w with ⟨j, w, wh⟩ | ⟨j, w, wh, _⟩ | ⟨w, _, _⟩
      · exact absurd wh (hn j)
      · exact absurd wh (hne j)
      · exact w
    rw [hw] at hp
    simp only at hp
    have t2 := t1.ext e2
    have s2 := s1.ext e2
    simp only [nn_some, add_lit, Nat.zero_add]
    rw [ldI_iff t2.c3, ldL_iff t2.c0, t2.rlen]
    have hbc := t1.bc
    have hbr := t1.br
    simp only [BIG] at hbc hbr
    rw [w64 (n := (T1.count : Int) + 1) (by omega) (by omega), w64 (by omega) (by omega), w64 (by omega) (by omega)]
    simp only [decide_eq_true_eq, decide_eq_false_iff_not]
    by_cases hgr : 4 * (T1.count + 1) > 3 * T1.row.length
    · rw [if_pos hgr] at hp
      refine ⟨fun _ => ?_, fun g => absurd (by omega) g⟩
      rw [ldL_iff t2.c1, t2.elen]
      obtain ⟨T2, n1, ok2, n3, n4, n5, n6, n7⟩ := move_ok (z := nilA) ok1 (T1.elder.length : Int)
      rw [n1] at hp
      simp only at hp
      have hbe := t1.be
      simp only [BIG] at hbe
      refine Move_spec t2 n1 (by omega) fun h3 es3 t3 s3 => ?_
      rw [ldL_iff t3.c0, t3.rlen]
      have hlen2 : T'.row.length = 2 * T2.row.length := by
        unfold layP at hp
        cases hf : findM (growT nilA T2).row key with
        | none => rw [hf] at hp; cases hp
        | some r => rw [hf] at hp; cases hp; simp [growT]
      have hb2 : 2 * T2.row.length <= BIG := by omega
      simp only [BIG] at hb2
      rw [w64 (by omega) (by omega), show 2 * (T2.row.length : Int) = ((2 * T2.row.length : Nat) : Int) from by omega, ldL_iff t3.c0]
      refine make_of (n := 2 * T2.row.length) elP (by omega) (by simp only [maxLen]; omega) fun b h4 hb4 o4 e4 => ?_
      rw [made_rows] at o4
      have t4 := t3.ext e4
      refine ⟨t4.c0, ?_⟩
      have hr3 := fun b' hb => t3.lt b' (.inr (.inl hb))
      refine t4.stn (by omega) fun h5 b5 e5 p5 q5 => ?_
      have o5 : Owns h5 ⟨some ⟨b, 0, none⟩, 2 * T2.row.length, 2 * T2.row.length⟩ tn_table_place_chain_Chain_api_Agg 3 ((List.replicate (2 * T2.row.length) (emptP nilA)).flatMap cP) := o4.only e5 fun b' hb' hn' => by
        simp [Sl.blk] at hb'
        have := t3.lt n (.inl rfl)
        omega
      refine stH_of b5 (by simp) fun h6 b6 e6 _ => ?_
      have o6 := o5.only e6 fun b' hb' hn' => by
        simp [Sl.blk] at hb'
        have := t3.lt n (.inl rfl)
        omega
      have p6 := p5.only e6 fun b' hb' hn' => t4.nr b' hb' hn'
      refine stH_of b6 (by rw [writeA_size]; simp) fun h7 b7 e7 _ => ?_
      have o7 := o6.only e7 fun b' hb' hn' => by
        simp [Sl.blk] at hb'
        have := t3.lt n (.inl rfl)
        omega
      have p7 := p6.only e7 fun b' hb' hn' => t4.nr b' hb' hn'
      have t7 : TH h7 n ⟨some ⟨b, 0, none⟩, 2 * T2.row.length, 2 * T2.row.length⟩ rs (growT nilA T2) :=
        ⟨b7, o7, p7, fun b' hb' hb2 => by
          have := hr3 b' hb2
          simp [Sl.blk] at hb'
          omega, KB.repl _, t3.kr, by
          have := t3.pos
          intro hnil
          have h0 := congrArg List.length hnil
          have hl0 : T2.row.length ≠ 0 := fun e => this (List.eq_nil_of_length_eq_zero e)
          simp only [growT, List.length_replicate, List.length_nil] at h0
          omega, by simp [growT]; omega, t3.br, t3.bc, by simp [growT]⟩
      have s7 : Stp h3 n rs es3 h7 ⟨some ⟨b, 0, none⟩, 2 * T2.row.length, 2 * T2.row.length⟩ rs :=
        ⟨(((e4.only (S := FT n rs es3)).trans (e5.mono fun b' _ hb => .inl hb) fun _ _ hb => hb).trans (e6.mono fun b' _ hb => .inl hb) fun _ _ hb => hb).trans (e7.mono fun b' _ hb => .inl hb) fun _ _ hb => hb, fun b' hb' => by
          rcases hb' with h1 | h1 | h1
          · exact .inl (.inl h1)
          · simp [Sl.blk] at h1; exact .inr (by omega)
          · exact .inl (.inr (.inl h1))⟩
      exact lay_spec t7 hk hp hc fun h8 t8 s8 => k h8 _ _ t8 (((s2.trans s3).trans s7).trans s8)
    · rw [if_neg hgr] at hp
      refine ⟨fun g => absurd g (by omega), fun _ => ?_⟩
      exact lay_spec t2 hk hp hc fun h3 t3 s3 => k h3 _ _ t3 (s2.trans s3)
end
theorem keys_int_loop {h : H} {o b : Nat} {M : List (ByteArray × Value)} {R : LoopState -> Option Code -> Obj} {Q : Sl -> H -> Prop} (ho : h.size <= o) (hb : b < o) (hM : M.length < 1073741824) (hv : ∀ p ∈ M, ∃ v : Option Addr, p.2 = .pointer v)
    (k : ∀ (r : Sl) (h' : H) (D : List (ByteArray × Value)), D.Perm M -> Owns h' r 9 1 ((D.map (·.1)).flatMap cT) -> Ext h h' -> (∀ n, r.blk = some n -> h.size <= n) -> Q r h')
    (hy : yields PP R (o + 2) [] (fun bg1 l1 args h K1 J1 => ∃ (y1_7 : ByteArray), args = [(.string y1_7)] ∧
      bg1 h fun h3 => ldL h3 ⟨o, 0, none⟩ fun y4 => newL h3 #[(.string y1_7)] ty_9 1 fun s7 h6 => runL PP (Builtin.append_ #[tn_Slstring, tn_Slstring] tn_Slstring #[y4.enc, s7.enc]) h6 fun s9 h8 => stH h8 ⟨o, 0, none⟩ [s9.enc] fun h10 => K1 h10)) :
    ∀ (m : Nat) (D : List (ByteArray × Value)) (h' : H), KG h o b M D h' -> h'[o + 2]? = some (R .ready none) -> D.length <= M.length -> M.length - D.length < m ->
      F.xbr.l1 (rngEnd R (o + 2) [] (fun h11 => ldL h11 ⟨o, 0, none⟩ fun y12 => shuts ((o + 1) :: ([] : List Nat)) h11 fun h14 => Q y12 h14) (fun jj h15 => True)) m (.func (.yield (o + 2)) #[] #[]) ⟨o + 3, 0, none⟩ h'
  | 0, D, h', kg, hrd, hl, hm => by omega
  | m + 1, D, h', kg, hrd, hl, hm => by
    unfold F.xbr.l1
    refine nextM_of kg.it (fun hp => ?_) (fun h5 p it5 hpM e5 sz5 hen => ?_)
    · refine ⟨false, #[], rfl, (fun h => by cases h), fun _ => .inl ⟨hrd, ?_⟩⟩
      have kg2 := kg.only ho hb (put_only h' (o + 2) (R .exhausted none))
      obtain ⟨s, s1, s2, s3⟩ := kg2.box
      refine (ldL_iff (s1.cell (i := 0) rfl)).2 ?_
      refine ⟨kg2.dfr, ?_⟩
      have e6 := put_only (put h' (o + 2) (R .exhausted none)) (o + 1) (.deferred none)
      exact k s _ D hp (s2.only e6 fun n hn hf => by have := s3 n hn; omega) (kg2.ext.step e6 fun n hn hf => by omega) fun n hn => by have := s3 n hn; omega
    · refine ⟨true, #[.string p.1, p.2], rfl, fun _ => ?_, fun h => by cases h⟩
      obtain ⟨v, hpv⟩ := hv p hpM
      refine hen _ ⟨p.1, v, by rw [hpv], ?_⟩
      have hrd5 : h5[o + 2]? = some (R .ready none) := e5.block hrd (by omega)
      refine hy h5 _ _ hrd5 ⟨p.1, rfl, hrd5, ?_⟩
      obtain ⟨s, s1, s2, s3⟩ := kg.box
      have ep := put_only h5 (o + 2) (R .busy none)
      have s1' : Blk (put h5 (o + 2) (R .busy none)) o #[s.enc] tn_Slstring := ep.block (e5.block s1 (by omega)) (by omega)
      have s2' := (s2.only e5 fun n hn hf => by have := s3 n hn; omega).only ep fun n hn hf => by have := s3 n hn; omega
      rw [ldL_iff (s1'.cell (i := 0) rfl)]
      refine newL_of fun n6 h6 hn6 b6 e6 _ => ?_
      have sz := kg.size
      have szp : (put h5 (o + 2) (R .busy none)).size = h'.size := by simp [put]; omega
      have hDl : (D.map (·.1)).length < 1073741824 := by simp; omega
      refine app_list (f := cT) (M := [p.1]) cT_len (by omega) el_Slstring (s2'.ext e6) (blk_reads (size := 1) (m := 1) (show Blk h6 n6 (([p.1] : List ByteArray).flatMap cT).toArray 9 from b6) rfl) (fun x => one1 rfl) (by simp at hDl ⊢; omega) fun r7 h7 q1 q2 q3 => ?_
      have b7 : Blk h7 o #[s.enc] tn_Slstring := q2.block (e6.block s1' (fun f => f)) fun e => by have := s3 o e; omega
      have hr7 : ∀ n, r7.blk = some n -> o + 4 <= n := fun n hn => by
        rcases q3 with q3 | ⟨b', q3, q4⟩
        · exact s3 n (by rw [← q3]; exact hn)
        · rw [q3] at hn; cases hn
          have := e6.size; omega
      refine stH_of b7 (by simp) fun h8 b8 e8 _ => ?_
      rw [writeA_all (by simp)] at b8
      have oall : Only (fun n => n = o ∨ n = o + 2 ∨ n = o + 3 ∨ s.blk = some n) h' h8 :=
        (((e5.mono fun n _ e => .inr (.inr (.inl e))).trans (ep.mono fun n _ e => .inr (.inl e)) fun _ _ e => e).trans ((e6.only (S := fun b => s.blk = some b)).trans q2 fun _ _ e => e |> fun x => x) fun n _ e => .inr (.inr (.inr e))).trans e8 fun n _ e => .inl e
      have oit : Only (fun n => n = o ∨ n = o + 2 ∨ s.blk = some n) h5 h8 :=
        ((ep.mono fun n _ e => .inr (.inl e)).trans ((e6.only (S := fun b => s.blk = some b)).trans q2 fun _ _ e => e |> fun x => x) fun n _ e => .inr (.inr e)).trans e8 fun n _ e => .inl e
      have hrd8 : h8[o + 2]? = some (R .busy none) := e8.block (q2.block (e6.block (putAt_ hrd5) (fun f => f)) fun e => by have := s3 _ e; omega) (by omega)
      have kg8 : KG h o b M (D ++ [p]) h8 := ⟨kg.ext.step oall fun n hn hf => by
          rcases hf with hf | hf | hf | hf
          · omega
          · omega
          · omega
          · have := s3 n hf; omega, ⟨r7, b8, by
          rw [List.map_append]
          exact q1.only e8 fun n hn hf => by have := hr7 n hn; omega, hr7⟩, oall.block kg.dfr (by
          intro hf
          rcases hf with hf | hf | hf | hf
          · omega
          · omega
          · omega
          · have := s3 _ hf; omega), it5.only oit (by
          intro hf
          rcases hf with hf | hf | hf
          · omega
          · omega
          · have := s3 _ hf; omega) (by
          intro hf
          rcases hf with hf | hf | hf
          · omega
          · omega
          · have := s3 _ hf; omega), by have := oall.size; omega⟩
      refine ⟨hrd8, true, rfl, (fun h => by cases h), fun _ => ?_⟩
      have hlen : (D ++ [p]).length <= M.length := by
        obtain ⟨_, es, clock, since, seen, c0, hb1, rp, hr1, _, _, _, E, w1, w2, w3, w4⟩ := it5
        have l1 : E.length = (D ++ [p]).length := by simpa using congrArg List.length w4
        have l2 := rp.len
        have hnd : E.Nodup := nodup_of w3
        have l3 : (E.map (·.born)).length <= (es.toList.map (·.born)).length := nodup_len w3 fun x hx => by
          obtain ⟨e, he, rfl⟩ := List.mem_map.1 hx
          exact List.mem_map.2 ⟨e, w1 e he, rfl⟩
        simp only [List.length_map, Array.length_toList] at l3
        omega
      refine keys_int_loop ho hb hM hv k hy m (D ++ [p]) _ (kg8.only ho hb (put_only h8 (o + 2) (R .ready none))) (putAt_ hrd8) hlen (by simp only [List.length_append, List.length_singleton] at hlen ⊢; omega)
set_option maxHeartbeats 400000 in
theorem keys_int_spec {h : H} {a b : Nat} {M : List (ByteArray × Value)} {Q : Sl -> H -> Prop} (ba : Blk h a #[.map (some b)] tn_map_string_chain_Chain_api_Agg) (mp : MapH h b M) (hM : M.length < 1073741824) (hv : ∀ p ∈ M, ∃ v : Option Addr, p.2 = .pointer v)
    (k : ∀ (r : Sl) (h' : H) (D : List (ByteArray × Value)), D.Perm M -> Owns h' r 9 1 ((D.map (·.1)).flatMap cT) -> Ext h h' -> (∀ n, r.blk = some n -> h.size <= n) -> Q r h') : F.xcx ⟨none, 0, 0⟩ (.func (.func no_maps_Keys_map_string_chain_Chain_api_Agg_string_chain_Chain_api_Agg_1) #[] #[.pointer (some ⟨a, 0, none⟩)]) h Q := by
  unfold F.xcx
  refine new_of fun o h1 ho b1 e1 sz1 => ?_
  subst ho
  rw [show h1.size = h.size + 1 from sz1]
  intro R hR hy
  rw [sz1] at hy ⊢
  refine ⟨no_maps_Keys_map_string_chain_Chain_api_Agg_string_chain_Chain_api_Agg_1, #[], #[.pointer (some ⟨a, 0, none⟩)], rfl, fun args w => no_maps_Keys_map_string_chain_Chain_api_Agg_string_chain_Chain_api_Agg_1_call args w, ?_⟩
  have hblt := mp.lt
  have halt := block_lt ba
  have d1 : Ext h1 (h1.push (.deferred (some []))) := .push _ _
  have d2 : Ext (h1.push (.deferred (some []))) ((h1.push (.deferred (some []))).push (R .ready none)) := .push _ _
  have e3 : Ext h ((h1.push (.deferred (some []))).push (R .ready none)) := (e1.trans d1).trans d2
  have key : F.xbr (.func (.yield (h.size + 2)) #[] #[]) ⟨a, 0, none⟩ ((h1.push (.deferred (some []))).push (R .ready none)) (rngEnd R (h.size + 2) [] (fun h11 => ldL h11 ⟨h.size, 0, none⟩ fun y12 => shuts ((h.size + 1) :: ([] : List Nat)) h11 fun h14 => Q y12 h14) (fun jj h15 => True)) := by
    unfold F.xbr
    rw [ldM_iff ((show Blk _ a #[.map (some b)] tn_map_string_chain_Chain_api_Agg from e3.block ba (fun f => f)).cell (i := 0) rfl)]
    refine rangeM_of (kt := 9) (et := _) mt_map_string_chain_Chain_api_Agg (mp.only e3 (fun f => f)) fun h4 it4 e4 sz4 => ?_
    have hsz : ((h1.push (.deferred (some []))).push (R .ready none)).size = h.size + 3 := by simp; omega
    rw [hsz] at it4 sz4 ⊢
    refine ⟨_, rfl, M.length + 1, ?_⟩
    refine keys_int_loop (Nat.le_refl _) hblt hM hv k hy (M.length + 1) [] h4 ⟨e3.trans e4, ⟨⟨none, 0, 0⟩, e4.block (d2.block (d1.block b1 (fun f => f)) (fun f => f)) (fun f => f), Owns.nil _ _ _, fun n hn => by simp [Sl.blk] at hn⟩, e4.block (d2.block (by rw [← sz1]; simp) (fun f => f)) (fun f => f), it4, by omega⟩ (e4.block (by
      have : h.size + 2 = (h1.push (.deferred (some []))).size := by simp; omega
      rw [this, Array.getElem?_push, if_pos rfl]) (fun f => f)) (by simp) (by simp)
  exact (F.xbr_ok key).mono fun r h' ⟨_, q⟩ => q
theorem sorted_int_spec {h : H} {a b : Nat} {M : List (ByteArray × Value)} {Q : Sl -> H -> Prop} (ba : Blk h a #[.map (some b)] tn_map_string_chain_Chain_api_Agg) (mp : MapH h b M) (hM : M.length < 1073741824) (hv : ∀ p ∈ M, ∃ v : Option Addr, p.2 = .pointer v)
    (k : ∀ (r : Sl) (h' : H) (D : List (ByteArray × Value)), D.Perm M -> Owns h' r 9 1 ((sortT (D.map (·.1))).flatMap cT) -> Ext h h' -> (∀ n, r.blk = some n -> h.size <= n) -> Q r h') : F.xcs (.func (.func no_maps_Keys_map_string_chain_Chain_api_Agg_string_chain_Chain_api_Agg_1) #[] #[.pointer (some ⟨a, 0, none⟩)]) h Q := by
  unfold F.xcs F.xdh
  refine keys_int_spec ba mp hM hv fun r h1 D hp o1 e1 m1 => ?_
  refine sort_fn rfl o1 (by have := hp.length_eq; simp; omega) fun h2 o2 e2 => ⟨rfl, ?_⟩
  exact k r h2 D hp o2 (e1.step e2 fun n hn hf => by have := m1 n hf; omega) m1
def tkL (R : List (Pl (Option Addr))) : List (ByteArray × Value) := (R.filter fun p => decide (p.is_ = 1)).map fun p => (p.key, .pointer p.value)
theorem tkL_app (A B : List (Pl (Option Addr))) : tkL (A ++ B) = tkL A ++ tkL B := by simp [tkL]
theorem tkL_one {p : Pl (Option Addr)} (h : p.is_ = 1) : tkL [p] = [(p.key, .pointer p.value)] := by simp [tkL, h]
theorem tkL_no {p : Pl (Option Addr)} (h : p.is_ ≠ 1) : tkL [p] = [] := by simp [tkL, h]
def KU (W : List (Pl (Option Addr))) : Prop := ((tkL W).map (·.1)).Nodup
theorem KU_of {T : Tb (Option Addr)} (t : TOk T) : KU (T.row ++ T.elder) := by
  unfold KU tkL
  rw [List.map_map]
  unfold List.Nodup
  rw [List.pairwise_map, List.pairwise_filter, List.pairwise_append]
  have one : ∀ {R : List (Pl (Option Addr))}, RowOk R -> R.Pairwise fun a b => decide (a.is_ = 1) = true -> decide (b.is_ = 1) = true -> ((fun x : ByteArray × Value => x.1) ∘ fun p : Pl (Option Addr) => (p.key, Value.pointer p.value)) a ≠ ((fun x : ByteArray × Value => x.1) ∘ fun p : Pl (Option Addr) => (p.key, Value.pointer p.value)) b := fun {R} r => by
    rw [List.pairwise_iff_getElem]
    intro i j hi hj hij h1 h2 he
    have := r.uniq i j R[i] R[j] (List.getElem?_eq_getElem hi) (List.getElem?_eq_getElem hj) (by simpa using h1) (by simpa using h2) (congrArg kL he)
    omega
  refine ⟨one t.row, one t.elder, fun a ha b hb h1 h2 he => ?_⟩
  obtain ⟨i, hi⟩ := List.mem_iff_getElem?.1 ha
  obtain ⟨j, hj⟩ := List.mem_iff_getElem?.1 hb
  exact t.apart i j a b hi hj (by simpa using h1) (by simpa using h2) (congrArg kL he)
noncomputable def allL (T : Tb (Option Addr)) : List (ByteArray × Option Addr) := (sortT ((tkL (T.row ++ T.elder)).map (·.1))).map fun k => (k, (getM T k).getD nilA)
theorem tk_val {T : Tb (Option Addr)} (t : TOk T) {k : ByteArray} {v : Value} (h : (k, v) ∈ tkL (T.row ++ T.elder)) : ∃ n, getM T k = some n ∧ v = .pointer n := by
  unfold tkL at h
  obtain ⟨p, hp, he⟩ := List.mem_map.1 h
  cases he
  rw [List.mem_filter] at hp
  obtain ⟨hp, h1⟩ := hp
  have h1 : p.is_ = 1 := by simpa using h1
  refine ⟨p.value, ?_, rfl⟩
  rcases List.mem_append.1 hp with hp | hp
  · obtain ⟨i, hi⟩ := List.mem_iff_getElem?.1 hp
    exact get_row t hi h1 rfl
  · obtain ⟨i, hi⟩ := List.mem_iff_getElem?.1 hp
    exact get_elder t (fun j ⟨q, g1, g2, g3⟩ => t.apart j i q p g1 hi g2 h1 g3) hi h1 rfl
theorem tk_len {T : Tb (Option Addr)} (t : TOk T) : (tkL (T.row ++ T.elder)).length = T.count := by
  unfold tkL
  rw [List.length_map, ← List.countP_eq_length_filter, List.countP_append, ← t.cnt]
  rfl
structure SeqH (h : H) (ka ma b : Nat) (r : Sl) (L : List (ByteArray × Option Addr)) : Prop where
  kb : Blk h ka #[r.enc] tn_Slstring
  ko : Owns h r 9 1 ((L.map (·.1)).flatMap cT)
  mb : Blk h ma #[.map (some b)] tn_map_string_chain_Chain_api_Agg
  mp : ∃ M, MapH h b M ∧ ∀ p ∈ L, getK M p.1 = some (.pointer p.2)
  len : L.length < 1073741824
theorem SeqH.only {S : Nat -> Prop} {h h' : H} {ka ma b : Nat} {r : Sl} {L : List (ByteArray × Option Addr)} (s : SeqH h ka ma b r L) (o : Only S h h') (hn : ∀ n, SQF ka ma b r n -> ¬ S n) : SeqH h' ka ma b r L := by
  obtain ⟨M, m1, m2⟩ := s.mp
  exact ⟨o.block s.kb (hn _ (.inl rfl)), s.ko.only o fun n e => hn n (.inr (.inr (.inr e))), o.block s.mb (hn _ (.inr (.inl rfl))), ⟨M, m1.only o (hn _ (.inr (.inr (.inl rfl)))), m2⟩, s.len⟩
theorem SeqH.lt {h : H} {ka ma b : Nat} {r : Sl} {L : List (ByteArray × Option Addr)} (s : SeqH h ka ma b r L) : ∀ n, SQF ka ma b r n -> n < h.size := fun n hn => by
  obtain ⟨M, m1, m2⟩ := s.mp
  rcases hn with rfl | rfl | rfl | hn
  · exact block_lt s.kb
  · exact block_lt s.mb
  · exact m1.lt
  · exact s.ko.blk_lt hn
theorem all_row {h hs : H} {Q : Value -> H -> Prop} {s22 s28 : Sl} {x23 x24 : Int} {C1 : Addr -> Sl -> Int -> Int -> H -> Prop} {ma b : Nat} {pre R : List (Pl (Option Addr))} (hm0 : h.size <= ma) (hb0 : h.size <= b) (hmb : ma ≠ b) (hR : R.length <= BIG) (ku : KU (pre ++ R))
    (k : ∀ h', Ext h h' -> Only (· = b) hs h' -> Blk h' ma #[.map (some b)] tn_map_string_chain_Chain_api_Agg -> MapH h' b (tkL (pre ++ R)) -> C1 ⟨ma, 0, none⟩ s22 x23 (IntKind.wrap .i64 (x24 + 1)) h') (hrd : Reads h s28 3 (R.flatMap cP)) :
    ∀ (m i : Nat) (h' : H), Ext h h' -> Only (· = b) hs h' -> Blk h' ma #[.map (some b)] tn_map_string_chain_Chain_api_Agg -> MapH h' b (tkL (pre ++ R.take i)) -> i <= R.length -> R.length - i < m -> F.xad.l2 Q C1 m ⟨ma, 0, none⟩ s22 x23 x24 s28 (s28.len : Int) (i : Int) h'
  | 0, i, h', e, eo, bm, mp, hi, hm => by omega
  | m + 1, i, h', e, eo, bm, mp, hi, hm => by
    unfold F.xad.l2
    have hlen := rd_len cP_len (by omega) hrd
    rw [hlen]
    simp only [decide_eq_true_eq, decide_eq_false_iff_not]
    simp only [BIG] at hR
    refine ⟨fun g => ?_, fun g => ?_⟩
    · obtain ⟨p, hp⟩ : ∃ p, R[i]? = some p := ⟨_, List.getElem?_eq_getElem (by omega)⟩
      obtain ⟨a, q1, q2, q3⟩ := rd_at cP_len (by omega) (hrd.ext e) hp
      refine idxR_of q1 (by omega) rfl ?_
      refine ⟨⟨(p.is_ : Int), p.key, p.value⟩, q3, ?_⟩
      refine new_of fun n h1 hn b1 e1 _ => ?_
      refine stH_of b1 (by simp [S_table_place_chain_Chain_api_Agg.cells]) fun h2 b2 e2 _ => ?_
      rw [writeA_all (by simp [S_table_place_chain_Chain_api_Agg.cells])] at b2
      have x2 : Ext h' h2 := e1.step e2 fun j hj hf => by omega
      simp only [add_lit, Nat.zero_add]
      rw [ldI_iff (b2.cell (i := 0) rfl)]
      have htk : R.take (i + 1) = R.take i ++ [p] := by rw [List.take_add_one, hp]; rfl
      rw [w64 (by omega) (by omega), show (i : Int) + 1 = ((i + 1 : Nat) : Int) from by omega]
      simp only [beq_iff_eq, beq_eq_false_iff_ne]
      refine ⟨fun g1 => ?_, fun g1 => ?_⟩
      · have h1 : p.is_ = 1 := by have : (p.is_ : Int) = 1 := g1; omega
        have bm2 := x2.block bm (fun f => f)
        rw [ldM_iff ((show Blk h2 ma #[.map (some b)] tn_map_string_chain_Chain_api_Agg from bm2).cell (i := 0) rfl), ldS_iff (b2.cell (i := 1) rfl), ldP_iff (b2.cell (i := 2) rfl)]
        refine updM_of (kt := 9) (et := _) mt_map_string_chain_Chain_api_Agg Tryz.underlying9 (mp.only x2 (fun f => f)) fun h3 m3 e3 _ => ?_
        have hnew : p.key ∉ (tkL (pre ++ R.take i)).map (·.1) := fun hin => by
          have hs : R = R.take i ++ p :: R.drop (i + 1) := by
            have := List.take_append_drop i R
            rw [List.drop_eq_getElem_cons (show i < R.length by omega)] at this
            have hpe : R[i] = p := (List.getElem?_eq_some_iff.1 hp).2
            rw [hpe] at this
            exact this.symm
          unfold KU at ku
          rw [hs, ← List.append_assoc, tkL_app, List.map_append, List.nodup_append] at ku
          have : p.key ∈ (tkL (p :: R.drop (i + 1))).map (·.1) := by
            rw [show p :: R.drop (i + 1) = [p] ++ R.drop (i + 1) from rfl, tkL_app, tkL_one h1]
            simp
          exact ku.2.2 _ hin _ this rfl
        rw [put_new hnew] at m3
        have hM : tkL (pre ++ R.take (i + 1)) = tkL (pre ++ R.take i) ++ [(p.key, .pointer p.value)] := by rw [htk, ← List.append_assoc, tkL_app, tkL_one h1]
        have := all_row (Q := Q) hm0 hb0 hmb (by simp only [BIG]; omega) ku k hrd m (i + 1) h3 ((e.trans x2).step e3 fun j hj hf => by omega) ((eo.ext x2).trans e3 fun _ _ e => e) (e3.block bm2 hmb) (by rw [hM]; exact m3) (by omega) (by omega)
        rw [hlen] at this
        exact this
      · have h1 : p.is_ ≠ 1 := fun h => g1 (by show (p.is_ : Int) = 1; omega)
        have hM : tkL (pre ++ R.take (i + 1)) = tkL (pre ++ R.take i) := by rw [htk, ← List.append_assoc, tkL_app, tkL_no h1, List.append_nil]
        have := all_row (Q := Q) hm0 hb0 hmb (by simp only [BIG]; omega) ku k hrd m (i + 1) h2 (e.trans x2) (eo.ext x2) (x2.block bm (fun f => f)) (by rw [hM]; exact mp.only x2 (fun f => f)) (by omega) (by omega)
        rw [hlen] at this
        exact this
    · have hi' : i = R.length := by omega
      subst hi'
      rw [List.take_length] at mp
      exact k h' e eo bm mp
theorem All_spec {h : H} {n : Nat} {rs es : Sl} {T : Tb (Option Addr)} {Q : Value -> H -> Prop} (t : TH h n rs es T) (ok : TOk T) (hsm : T.count < 1073741824)
    (k : ∀ h' ka ma b r, SeqH h' ka ma b r (allL T) -> Ext h h' -> (∀ m, SQF ka ma b r m -> h.size <= m) -> (ka ≠ ma ∧ ka ≠ b ∧ ma ≠ b ∧ r.blk ≠ some ka ∧ r.blk ≠ some ma ∧ r.blk ≠ some b) -> Q (.func (.func no_table_Table_chain_Chain_api_Agg_All_1) #[] #[.pointer (some ⟨ka, 0, none⟩), .pointer (some ⟨ma, 0, none⟩)]) h') : F.xad (some ⟨n, 0, none⟩) h Q := by
  unfold F.xad
  simp only [nn_some, add_lit, Nat.zero_add]
  rw [ldI_iff t.c3]
  refine makeM_of (.inr ⟨⟨_, _, rfl⟩, mt_map_string_chain_Chain_api_Agg⟩) fun mp1 e1 => ?_
  generalize hb1 : h.push (.map #[] 0) = h1 at mp1 e1 ⊢
  refine ⟨_, rfl, ?_⟩
  refine new_of fun ma h2 hma b2 e2 sz2 => ?_
  have hs1 : h1.size = h.size + 1 := by rw [← hb1]; simp
  have hmb : ma ≠ h.size := by omega
  refine stH_of b2 (by simp) fun h3 b3 e3 _ => ?_
  rw [writeA_all (by simp)] at b3
  have x3 : Ext h h3 := (e1.trans e2).step e3 fun j hj hf => by omega
  have t3 := t.ext x3
  rw [ldL_iff t3.c0, ldL_iff t3.c1]
  refine newL_of fun sl h4 hsl b4 e4 _ => ?_
  have x4 := x3.trans e4
  have t4 := t.ext x4
  have mp4 : MapH h4 h.size [] := ((mp1.only e2 (fun f => f)).only e3 (fun e => hmb e.symm)).only e4 (fun f => f)
  have bm4 := e4.block b3 (fun f => f)
  have ku := KU_of ok
  refine ⟨3, ?_⟩
  have hbr := t.br
  have hbe := t.be
  have tail : ∀ h5, Only (· = h.size) h4 h5 -> Blk h5 ma #[.map (some h.size)] tn_map_string_chain_Chain_api_Agg -> MapH h5 h.size (tkL (T.row ++ T.elder)) -> F.xad.l1 Q 1 ⟨ma, 0, none⟩ ⟨some ⟨sl, 0, none⟩, 2, 2⟩ 2 2 h5 := fun h5 e5 b5 m5 => by
    unfold F.xad.l1
    refine ⟨fun g => by simp at g, fun _ => ?_⟩
    rw [ldM_iff ((show Blk h5 ma #[.map (some h.size)] tn_map_string_chain_Chain_api_Agg from b5).cell (i := 0) rfl)]
    unfold F.xaw
    refine new_of fun kc h6 hkc b6 e6 _ => ?_
    have hML : (tkL (T.row ++ T.elder)).length < 1073741824 := by rw [tk_len ok]; exact hsm
    refine sorted_int_spec b6 (m5.only e6 (fun f => f)) hML (fun p hp => ?_) fun r h7 D hD o7 e7 m7 => ?_
    · obtain ⟨v, _, hv⟩ := tk_val ok (k := p.1) (v := p.2) hp
      exact ⟨v, hv⟩
    · refine new_of fun ka h8 hka b8 e8 _ => ?_
      refine stH_of b8 (by simp) fun h9 b9 e9 _ => ?_
      rw [writeA_all (by simp)] at b9
      have x5 : Ext h h5 := x4.step e5 fun j hj hf => by omega
      have x7 := (x5.trans e6).trans e7
      have x9 : Ext h h9 := (x7.trans e8).step e9 fun j hj hf => by have := x7.size; omega
      have hmlt := (mp4.lt)
      have s5 := e5.size
      have s6 := e6.size
      have s7 := e7.size
      have hml : ma < h4.size := block_lt bm4
      have hks : sortT (D.map (·.1)) = sortT ((tkL (T.row ++ T.elder)).map (·.1)) := sortT_perm (hD.map _)
      have hL : (allL T).map (·.1) = sortT ((tkL (T.row ++ T.elder)).map (·.1)) := by
        unfold allL; rw [List.map_map]; simp [Function.comp_def]
      have e59 : Only (· = ka) h5 h9 := ((e6.trans e7).trans e8).only.trans e9 fun _ _ e => e
      have hr9 : ∀ j, r.blk = some j -> h6.size <= j ∧ j < h7.size := fun j hj => ⟨m7 j hj, o7.blk_lt hj⟩
      refine k h9 ka ma h.size r ⟨b9, ?_, e59.block b5 (by omega), ⟨_, m5.only e59 (by omega), fun p hp => ?_⟩, ?_⟩ x9 (fun j hj => ?_) ⟨by omega, by omega, by omega, fun e => ?_, fun e => ?_, fun e => ?_⟩
      · rw [hL, ← hks]
        exact (o7.ext e8).only e9 fun j hj hf => by have := hr9 j hj; omega
      · unfold allL at hp
        obtain ⟨key, hkey, rfl⟩ := List.mem_map.1 hp
        rw [sortT_mem] at hkey
        obtain ⟨q, hq, rfl⟩ := List.mem_map.1 hkey
        obtain ⟨v, hv1, hv2⟩ := tk_val ok (k := q.1) (v := q.2) hq
        rw [getK_mem ku (v := q.2) hq, hv2, hv1]; rfl
      · have := congrArg List.length hL
        simp only [List.length_map, sortT_len] at this
        omega
      · rcases hj with rfl | rfl | rfl | hj
        · have := x7.size; omega
        · omega
        · omega
        · have := hr9 j hj; have := x5.size; omega
      · have := hr9 _ e; omega
      · have := hr9 _ e; omega
      · have := hr9 _ e; have := x5.size; omega
  have hidx : ∀ (h5 : H), Only (· = h.size) h4 h5 -> ∀ (i : Nat) (s : Sl), ([rs, es] : List Sl)[i]? = some s -> cellH h5 ⟨sl, i * 1, none⟩ = some s.enc := fun h5 e5 i s hs => by
    have b5 : Blk h5 sl #[rs.enc, es.enc] tn_Sltable_place_chain_Chain_api_Agg := e5.block b4 (by have := e3.size; omega)
    rw [Nat.mul_one]
    rcases i with _ | _ | i
    · simp at hs; subst hs; exact b5.cell rfl
    · simp at hs; subst hs; exact b5.cell rfl
    · simp at hs
  have second : ∀ h5, Only (· = h.size) h4 h5 -> Blk h5 ma #[.map (some h.size)] tn_map_string_chain_Chain_api_Agg -> MapH h5 h.size (tkL T.row) -> F.xad.l1 Q 2 ⟨ma, 0, none⟩ ⟨some ⟨sl, 0, none⟩, 2, 2⟩ 2 1 h5 := fun h5 e5 b5 m5 => by
    unfold F.xad.l1
    refine ⟨fun _ => ?_, fun g => by simp at g⟩
    refine idxA_of (b := sl) (i := 1) rfl (by simp) rfl ?_
    rw [ldL_iff (hidx h5 e5 1 es rfl)]
    refine ⟨T.elder.length + 1, ?_⟩
    have x5 : Ext h h5 := x4.step e5 fun j hj hf => by omega
    exact all_row (Q := Q) (h := h) (hs := h5) (pre := T.row) (R := T.elder) (C1 := F.xad.l1 Q 1) (by omega) (Nat.le_refl _) hmb hbe ku (fun h6 e6 o6 b6 m6 => by
      rw [w64 (by omega) (by omega)]
      exact tail h6 (e5.trans o6 fun _ _ e => e) b6 m6) t.el.reads _ 0 h5 x5 (.refl _) b5 (by simpa using m5) (by omega) (by omega)
  unfold F.xad.l1
  refine ⟨fun _ => ?_, fun g => by simp at g⟩
  refine idxA_of (b := sl) (i := 0) rfl (by simp) rfl ?_
  rw [ldL_iff (hidx h4 (.refl _) 0 rs rfl)]
  refine ⟨T.row.length + 1, ?_⟩
  refine all_row (Q := Q) (h := h) (hs := h4) (pre := []) (R := T.row) (C1 := F.xad.l1 Q 2) (by omega) (Nat.le_refl _) hmb hbr ?_ (fun h6 e6 o6 b6 m6 => ?_) t.row.reads _ 0 h4 x4 (.refl _) bm4 (by simpa [tkL] using mp4) (by omega) (by omega)
  · have := ku
    unfold KU at this
    rw [tkL_app, List.map_append, List.nodup_append] at this
    exact this.1
  · rw [w64 (by omega) (by omega)]
    exact second h6 o6 b6 m6
abbrev seqV (ka ma : Nat) : Value := .func (.func no_table_Table_chain_Chain_api_Agg_All_1) #[] #[.pointer (some ⟨ka, 0, none⟩), .pointer (some ⟨ma, 0, none⟩)]
theorem seq_core {h1 : H} {ka ma b l : Nat} {r : Sl} {L : List (ByteArray × Option Addr)} {js : List Code} {R : LoopState -> Option Code -> Obj} {BB : Nat -> ByteArray -> Option Addr -> H -> (H -> Prop) -> (Nat -> H -> Prop) -> Prop} {Kn : H -> Prop} {Kj : Nat -> H -> Prop} (I : Nat -> H -> Prop) (E : Nat -> H -> Prop) (hR : ∀ s p, ∃ r, R s p = .loop r)
    (hst : ∀ i h' h'', I i h' -> Only (· = l) h' h'' -> I i h'') (hstE : ∀ j h' h'', E j h' -> Only (· = l) h' h'' -> E j h'') (hown : ∀ i h', I i h' -> SeqH h' ka ma b r L)
    (hB : ∀ (X : Obj) (i : Nat) (x : ByteArray × Option Addr) (h5 : H) (K : H -> Prop) (J : Nat -> H -> Prop), (∃ r, X = .loop r) -> I i h5 -> h5[l]? = some X -> L[i]? = some x -> (∀ h2, I (i + 1) h2 -> h2[l]? = some X -> K h2) -> (∀ j h2, E j h2 -> h2[l]? = some X -> J j h2) -> BB l x.1 x.2 h5 K J)
    (hn : ∀ h', I L.length h' -> Kn h') (hj : ∀ j h', E j h' -> ∃ c, js[j]? = some c ∧ Kj j h')
    (hy : yields PP R l js (fun bg l args h' K J => ∃ (k : ByteArray), ∃ (v : Option Addr), args = [.string k, .pointer v] ∧ bg h' fun h5 => BB l k v h5 K J)) (h0 : I 0 h1) (hr : h1[l]? = some (R .ready none)) :
    F.xbv (.func (.yield l) #[] #[]) ⟨ka, 0, none⟩ ⟨ma, 0, none⟩ h1 (rngEnd R l js Kn Kj) := by
  unfold F.xbv
  have s0 := hown 0 h1 h0
  rw [ldL_iff (s0.kb.cell (i := 0) rfl)]
  have hlen := s0.len
  have hrl := own_len cT_len (by omega) s0.ko
  rw [List.length_map] at hrl
  refine ⟨L.length + 1, ?_⟩
  rw [hrl]
  have key : ∀ (m i : Nat) (h' : H), i <= L.length -> L.length - i < m -> I i h' -> h'[l]? = some (R .ready none) -> F.xbv.l1 (rngEnd R l js Kn Kj) m (.func (.yield l) #[] #[]) ⟨ma, 0, none⟩ r (L.length : Int) (i : Int) h' := by
    intro m
    induction m with
    | zero => intro i h' _ hm; omega
    | succ m ih =>
      intro i h' hi hm hI hrd
      unfold F.xbv.l1
      simp only [decide_eq_true_eq, decide_eq_false_iff_not]
      refine ⟨fun g => ?_, fun g => ?_⟩
      · obtain ⟨x, hx⟩ : ∃ x, L[i]? = some x := ⟨_, List.getElem?_eq_getElem (by omega)⟩
        have si := hown i h' hI
        obtain ⟨M, m1, m2⟩ := si.mp
        obtain ⟨bb, a1, a2⟩ := own_at cT_len (by omega) si.ko (i := i) (x := x.1) (by rw [List.getElem?_map, hx]; rfl)
        refine idxA_of (i := i) a1 (by omega) rfl ?_
        rw [ldS_iff (by have := a2.one; rwa [Nat.mul_one] at this ⊢), ldM_iff (si.mb.cell (i := 0) rfl)]
        refine lookM_of (kt := 9) (et := _) (z := .pointer none) mt_map_string_chain_Chain_api_Agg Tryz.underlying9 (fun w => by kernel_rfl) m1 ?_
        rw [m2 x (List.mem_of_getElem? hx)]
        refine ⟨x.2, rfl, ?_⟩
        refine hy h' _ _ hrd ⟨x.1, x.2, rfl, hrd, ?_⟩
        refine hB (R .busy none) i x _ _ _ (hR _ _) (hst i h' _ hI (put_only h' l _)) (putAt_ hrd) hx (fun h4 hI4 hb4 => ⟨hb4, true, rfl, (fun h => by cases h), fun _ => ?_⟩) (fun j h4 hE hb4 => ?_)
        · rw [show IntKind.wrap .i64 ((i : Int) + 1) = ((i + 1 : Nat) : Int) from by rw [w64 (by omega) (by omega)]; omega]
          exact ih (i + 1) _ (by omega) (by omega) (hst (i + 1) h4 _ hI4 (put_only h4 l _)) (putAt_ hb4)
        · obtain ⟨c, hc, _⟩ := hj j h4 hE
          refine ⟨c, hc, hb4, false, rfl, fun _ => ?_, fun h => by cases h⟩
          have hE2 := hstE j h4 _ hE (put_only h4 l (R .done (some c)))
          have hp := putAt_ (o := R .done (some c)) hb4
          obtain ⟨c', hc', hk⟩ := hj j _ (hstE j _ _ hE2 (put_only _ l (R .exhausted (some c))))
          exact .inr ⟨j, c, hc, hp, hk⟩
      · have : i = L.length := by omega
        subst this
        exact .inl ⟨hrd, hn _ (hst _ h' _ hI (put_only h' l _))⟩
  exact key _ 0 h1 (by omega) (by omega) h0 hr
theorem range_seq {h : H} {ka ma b : Nat} {r : Sl} {L : List (ByteArray × Option Addr)} {js : List Code} {BB : Nat -> ByteArray -> Option Addr -> H -> (H -> Prop) -> (Nat -> H -> Prop) -> Prop} {Kn : H -> Prop} {Kj : Nat -> H -> Prop} (I : Nat -> H -> Prop) (E : Nat -> H -> Prop)
    (hst : ∀ i h' h'', I i h' -> Only (· = h.size + 1) h' h'' -> I i h'') (hstE : ∀ j h' h'', E j h' -> Only (· = h.size + 1) h' h'' -> E j h'') (hown : ∀ i h', I i h' -> SeqH h' ka ma b r L)
    (h0 : I 0 (h.push (.deferred (some []))))
    (hB : ∀ (X : Obj) (i : Nat) (x : ByteArray × Option Addr) (h5 : H) (K : H -> Prop) (J : Nat -> H -> Prop), (∃ r, X = .loop r) -> I i h5 -> h5[h.size + 1]? = some X -> L[i]? = some x -> (∀ h2, I (i + 1) h2 -> h2[h.size + 1]? = some X -> K h2) -> (∀ j h2, E j h2 -> h2[h.size + 1]? = some X -> J j h2) -> BB (h.size + 1) x.1 x.2 h5 K J)
    (hn : ∀ h', I L.length h' -> Kn h') (hj : ∀ j h', E j h' -> ∃ c, js[j]? = some c ∧ Kj j h') :
    rng PP (seqV ka ma) h js (fun bg l args h' K J => ∃ (k : ByteArray), ∃ (v : Option Addr), args = [.string k, .pointer v] ∧ bg h' fun h5 => BB l k v h5 K J) Kn Kj := fun R hR hy => by
  refine ⟨no_table_Table_chain_Chain_api_Agg_All_1, #[], #[.pointer (some ⟨ka, 0, none⟩), .pointer (some ⟨ma, 0, none⟩)], rfl, fun a w => no_table_Table_chain_Chain_api_Agg_All_1_call a w, ?_⟩
  have := F.xbv_ok (seq_core I E hR hst hstE hown hB hn hj hy (h1 := (h.push (.deferred (some []))).push (R .ready none)) (hst 0 _ _ h0 (.push _ _)) (by rw [Array.getElem?_push, if_pos (by simp)]))
  exact this.mono fun r h' ⟨_, q⟩ => q
theorem shift_spec {n : Nat} {rs es : Sl} {x4 : Option Addr} {Q : Option Addr -> Bool -> H -> Prop} : ∀ (f : Nat) (h : H) (T : Tb (Option Addr)) (a k : Nat) (R : List (Pl (Option Addr))), TH h n rs es T -> shiftM nilA f T.row a k = some R -> a < T.row.length -> k < T.row.length ->
    (∀ h', TH h' n rs es { T with row := R } -> Stp h n rs es h' rs es -> Q x4 true h') -> F.xam.l1 Q f (some ⟨n, 0, none⟩) x4 (a : Int) (T.row.length : Int) (k : Int) h
  | 0, h, T, a, k, R, t, hs, ha, hk, kk => by cases hs
  | f + 1, h, T, a, k, R, t, hs, ha, hk, kk => by
    unfold F.xam.l1
    unfold shiftM at hs
    obtain ⟨p, hp⟩ : ∃ p, T.row[k]? = some p := ⟨_, List.getElem?_eq_getElem hk⟩
    rw [hp] at hs
    simp only at hs
    simp only [nn_some, add_lit, Nat.zero_add]
    have hbr := t.br
    rw [ldL_iff t.c0]
    obtain ⟨b, q1, q2⟩ := t.row_at hp
    have c0 := q2 0 _ rfl
    have c1 := q2 1 _ rfl
    refine idxA_of q1 (by rw [t.rlen]; exact hk) rfl ?_
    rw [ldI_iff c0]
    simp only [bne_iff_ne, ne_eq, bne_eq_false_iff_eq]
    by_cases h0 : p.is_ = 0
    · rw [if_pos h0] at hs
      cases hs
      refine ⟨fun g => absurd (by omega) g, fun _ => ?_⟩
      rw [ldL_iff t.c0]
      refine idxA_of q1 (by rw [t.rlen]; exact ha) rfl ?_
      exact t.set_row (p := emptP nilA) q1 ha (by show (0 : Nat) <= _; decide) fun h1 t1 s1 => kk h1 t1 s1
    · rw [if_neg h0] at hs
      refine ⟨fun _ => ?_, fun g => absurd g (by omega)⟩
      rw [ldL_iff t.c0, ldL_iff t.c0]
      refine idxA_of q1 (by rw [t.rlen]; exact hk) rfl ?_
      rw [ldS_iff c1]
      refine home_spec (R := T.row) t.rlen (by omega) hbr (t.kr k p hp) fun h1 e1 => ?_
      have hh := home_lt (R := T.row) (key := p.key) (by omega)
      have t1 := t.ext e1
      refine ⟨by omega, by omega, ?_⟩
      rw [tmod_dist hh hk hbr, tmod_dist ha hk hbr]
      simp only [decide_eq_true_eq, decide_eq_false_iff_not]
      by_cases hd : dist T.row.length (homeM T.row p.key) k >= dist T.row.length a k
      · rw [if_pos hd] at hs
        refine ⟨fun _ => ?_, fun g => absurd (by omega) g⟩
        rw [ldL_iff t1.c0, ldL_iff t1.c0]
        refine idxA_of q1 (by rw [t.rlen]; exact hk) rfl ?_
        have q3 : Cells h1 ⟨b, k * 3, none⟩ (cP p) := q2.ext e1
        refine ⟨⟨(p.is_ : Int), p.key, p.value⟩, q3, ?_⟩
        refine idxA_of q1 (by rw [t.rlen]; exact ha) rfl ?_
        refine t1.set_row (p := p) q1 ha (t.kr k p hp) fun h2 t2 s2 => ?_
        unfold F.xam.j2
        refine ⟨by omega, ?_⟩
        rw [next_tmod hk hbr]
        have := shift_spec f h2 _ k ((k + 1) % T.row.length) R t2 hs (by simpa using hk) (by simpa using ring_lt (h := k) (k := 1) (n := T.row.length) (by omega)) fun h' t' s' => kk h' t' ((Stp.of_ext e1).trans (s2.trans s'))
        simp only [List.length_set] at this
        exact this
      · rw [if_neg hd] at hs
        refine ⟨fun g => absurd g (by omega), fun _ => ?_⟩
        unfold F.xam.j2
        refine ⟨by omega, ?_⟩
        rw [next_tmod hk hbr]
        exact shift_spec f h1 T a ((k + 1) % T.row.length) R t1 hs ha (ring_lt (h := k) (k := 1) (by omega)) fun h' t' s' => kk h' t' ((Stp.of_ext e1).trans s')
theorem Drop_spec {h : H} {n : Nat} {rs es : Sl} {T T' : Tb (Option Addr)} {key : ByteArray} {r : Option Addr × Bool} {Q : Option Addr -> Bool -> H -> Prop} (t : TH h n rs es T) (ok : TOk T) (hk : SmallK key) (hd : dropM nilA T key = some (T', r))
    (k : ∀ h' es', TH h' n rs es' T' -> Stp h n rs es h' rs es' -> Q r.1 r.2 h') : F.xam (some ⟨n, 0, none⟩) key h Q := by
  unfold F.xam
  obtain ⟨T1, m1, ok1, m3, m4, m5, m6, m7⟩ := move_ok (z := nilA) ok 4
  unfold dropM at hd
  rw [m1] at hd
  simp only at hd
  refine Move_spec t m1 (by omega) fun h1 es1 t1 s1 => ?_
  simp only [nn_some, add_lit, Nat.zero_add]
  rw [ldL_iff t1.c1]
  cases hf : findM T1.elder key with
  | none => rw [hf] at hd; cases hd
  | some w =>
    rw [hf] at hd
    obtain ⟨i, b⟩ := w
    refine find_spec t1.el.reads t1.be hk hf fun h2 e2 => ?_
    have t2 := t1.ext e2
    have hbc := t1.bc
    have hcnt := ok1.cnt
    simp only [BIG] at hbc
    cases b with
    | true =>
      refine ⟨fun _ => ?_, fun h => by cases h⟩
      simp only at hd
      cases hp : T1.elder[i]? with
      | none => rw [hp] at hd; cases hd
      | some p =>
        rw [hp] at hd
        simp only at hd
        cases hd
        have hi := (List.getElem?_eq_some_iff.1 hp).1
        have h1p : p.is_ = 1 := by
          rcases hit_or T1.elder key with ⟨j, hj⟩ | hn
          · rw [ok1.elder.hit hj] at hf
            cases hf
            obtain ⟨q, g1, g2, _⟩ := hj
            rw [hp] at g1; cases g1; exact g2
          · by_cases he : T1.elder = []
            · rw [he] at hp; simp at hp
            · obtain ⟨j, g1, _, _⟩ := find_miss hn (ok1.eroom he)
              rw [g1] at hf; cases hf
        have hc1 := ok1.cnt_elder hp h1p
        rw [ldL_iff t2.c1]
        obtain ⟨b, q1, q2⟩ := t2.el_at hp
        refine idxA_of q1 (by rw [t1.elen]; exact hi) rfl ?_
        have c2 := q2 2 _ rfl
        rw [ldP_iff c2, ldL_iff t2.c1]
        refine idxA_of q1 (by rw [t1.elen]; exact hi) rfl ?_
        refine t2.set_el (p := goneP nilA) q1 hi (by show (0 : Nat) <= _; decide) fun h3 t3 s3 => ?_
        rw [ldI_iff t3.c3]
        refine t3.st_count (m := T1.count - 1) (by show IntKind.wrap .i64 ((T1.count : Int) - 1) = _; rw [w64 (by omega) (by omega)]; omega) (by simp only [BIG]; omega) fun h4 t4 s4 => ?_
        exact k h4 _ t4 ((s1.ext e2).trans (s3.trans s4))
    | false =>
      refine ⟨fun h => (by cases h), fun _ => ?_⟩
      simp only at hd
      rw [ldL_iff t2.c0]
      cases hg : findM T1.row key with
      | none => rw [hg] at hd; cases hd
      | some w =>
        rw [hg] at hd
        obtain ⟨i, b⟩ := w
        refine find_spec t2.row.reads t2.br hk hg fun h3 e3 => ?_
        have t3 := t2.ext e3
        cases b with
        | false =>
          simp only at hd
          cases hd
          exact ⟨fun _ => k h3 _ t3 ((s1.ext e2).ext e3), fun h => by cases h⟩
        | true =>
          refine ⟨fun h => (by cases h), fun _ => ?_⟩
          simp only at hd
          cases hp : T1.row[i]? with
          | none => rw [hp] at hd; cases hd
          | some p =>
            rw [hp] at hd
            simp only at hd
            cases hR : shiftM nilA (T1.row.length + 1) T1.row i ((i + 1) % T1.row.length) with
            | none => rw [hR] at hd; cases hd
            | some R =>
              rw [hR] at hd
              simp only at hd
              cases hd
              have hi := (List.getElem?_eq_some_iff.1 hp).1
              have h1p : p.is_ = 1 := by
                rcases hit_or T1.row key with ⟨j, hj⟩ | hn
                · rw [ok1.row.hit hj] at hg
                  cases hg
                  obtain ⟨q, g1, g2, _⟩ := hj
                  rw [hp] at g1; cases g1; exact g2
                · obtain ⟨j, g1, _, _⟩ := find_miss hn (ok1.room ok1.cnt_row)
                  rw [g1] at hg; cases hg
              have hc1 : 1 <= cntT T1.row := by
                unfold cntT
                exact List.countP_pos_iff.2 ⟨p, List.mem_of_getElem? hp, by simpa using h1p⟩
              rw [ldL_iff t3.c0]
              obtain ⟨b, q1, q2⟩ := t3.row_at hp
              refine idxA_of q1 (by rw [t1.rlen]; exact hi) rfl ?_
              have c2 := q2 2 _ rfl
              rw [ldP_iff c2, ldI_iff t3.c3]
              refine t3.st_count (m := T1.count - 1) (by show IntKind.wrap .i64 ((T1.count : Int) - 1) = _; rw [w64 (by omega) (by omega)]; omega) (by simp only [BIG]; omega) fun h4 t4 s4 => ?_
              rw [ldL_iff t4.c0, t4.rlen]
              have hbr := t1.br
              refine ⟨by show ((T1.row.length : Nat) : Int) ≠ 0; omega, T1.row.length + 1, ?_⟩
              have hnx := next_tmod hi hbr
              show F.xam.l1 Q (T1.row.length + 1) (some ⟨n, 0, none⟩) p.value (i : Int) (T1.row.length : Int) (Int.tmod (IntKind.wrap .i64 ((i : Int) + 1)) (T1.row.length : Int)) h4
              rw [hnx]
              exact shift_spec _ h4 { T1 with count := T1.count - 1 } i _ R t4 hR hi (ring_lt (h := i) (k := 1) (by omega)) fun h5 t5 s5 => k h5 _ t5 (((s1.ext e2).ext e3).trans (s4.trans s5))
theorem sortT_id {A : List ByteArray} (h : A.Pairwise fun a b => a.data.toList < b.data.toList) : sortT A = A := by
  unfold sortT
  have hs : (A.map fun s => s.data.toList).Pairwise fun x y => (decide (x <= y)) = true := by
    rw [List.pairwise_map]
    exact h.imp fun h => by simpa using List.le_of_lt h
  rw [List.mergeSort_of_pairwise hs, List.map_map]
  conv => rhs; rw [← List.map_id A]
  exact List.map_congr_left fun s _ => rfl
end Go.Proofs.YtjjchpaomgmmdaaGreat.V.P
namespace Go.Proofs.YtjjchpaomgmmdaaGreat.V.S
open Go Go.Proofs.YtjjchpaomgmmdaaGreat.V
set_option linter.unusedVariables false
set_option linter.unusedSimpArgs false
set_option maxRecDepth 20000
section
variable {α : Type} {key : α -> Cel}
def setK (key : α -> Cel) : List α -> α -> List α
  | [], x => [x]
  | y :: r, x => if cmpC (key x) (key y) = -1 then x :: y :: r else if cmpC (key x) (key y) = 0 then x :: r else y :: setK key r x
def getK (key : α -> Cel) (S : List α) (c : Cel) : Option α := S.find? fun y => decide (cmpC (key y) c = 0)
abbrev SortK (key : α -> Cel) (S : List α) : Prop := S.Pairwise fun a b => cmpC (key a) (key b) = -1
theorem cC_self (a : Cel) : cmpC a a = 0 := cC_zero.2 rfl
theorem getK_some {S : List α} {c : Cel} {x : α} (h : getK key S c = some x) : x ∈ S ∧ key x = c :=
  ⟨List.mem_of_find?_eq_some h, cC_zero.1 (by have := List.find?_some h; simpa using this)⟩
theorem getK_none {S : List α} {c : Cel} (h : getK key S c = none) : ∀ x ∈ S, key x ≠ c := fun x hx e => by
  have := List.find?_eq_none.1 h x hx
  simp [cC_zero.2 e] at this
theorem getK_mem {S : List α} (hs : SortK key S) {x : α} (hx : x ∈ S) : getK key S (key x) = some x := by
  induction S with
  | nil => cases hx
  | cons y r ih =>
    have h := List.pairwise_cons.1 hs
    unfold getK
    rw [List.find?_cons]
    rcases List.mem_cons.1 hx with e | e
    · subst e; simp [cC_self]
    · have := h.1 x e
      have hn : ¬ cmpC (key y) (key x) = 0 := by omega
      simp only [hn, decide_false]
      exact ih h.2 e
theorem mem_set {x y : α} : ∀ {S : List α}, SortK key S -> (y ∈ setK key S x ↔ y = x ∨ (y ∈ S ∧ key y ≠ key x))
  | [], _ => by simp [setK]
  | z :: r, hs => by
    have h := List.pairwise_cons.1 hs
    have ih := mem_set (x := x) (y := y) h.2
    unfold setK
    split
    · rename_i h1
      have hall : ∀ w ∈ z :: r, key w ≠ key x := fun w hw e => by
        rcases List.mem_cons.1 hw with q | q
        · subst q; rw [e, cC_self] at h1; omega
        · have := cC_trans h1 (h.1 w q); rw [e, cC_self] at this; omega
      constructor
      · intro hy
        rcases List.mem_cons.1 hy with q | q
        · exact .inl q
        · exact .inr ⟨q, hall y q⟩
      · rintro (q | ⟨q, _⟩)
        · rw [q]; simp
        · exact List.mem_cons_of_mem _ q
    · rename_i h1
      split
      · rename_i h2
        have he := cC_zero.1 h2
        constructor
        · intro hy
          rcases List.mem_cons.1 hy with q | q
          · exact .inl q
          · refine .inr ⟨List.mem_cons_of_mem _ q, fun e => ?_⟩
            have := h.1 y q
            rw [e, ← he, cC_self] at this; omega
        · rintro (q | ⟨q, q2⟩)
          · rw [q]; simp
          · rcases List.mem_cons.1 q with q | q
            · subst q; exact absurd he.symm q2
            · exact List.mem_cons_of_mem _ q
      · rename_i h2
        have hne : key z ≠ key x := fun e => h2 (cC_zero.2 e.symm)
        rw [List.mem_cons, ih]
        constructor
        · rintro (q | q | ⟨q, q2⟩)
          · subst q; exact .inr ⟨by simp, hne⟩
          · exact .inl q
          · exact .inr ⟨List.mem_cons_of_mem _ q, q2⟩
        · rintro (q | ⟨q, q2⟩)
          · exact .inr (.inl q)
          · rcases List.mem_cons.1 q with q | q
            · exact .inl q
            · exact .inr (.inr ⟨q, q2⟩)
theorem sort_set {x : α} : ∀ {S : List α}, SortK key S -> SortK key (setK key S x)
  | [], _ => by simp [setK, SortK]
  | z :: r, hs => by
    have h := List.pairwise_cons.1 hs
    have ih := sort_set (x := x) h.2
    unfold setK
    split
    · rename_i h1
      refine List.pairwise_cons.2 ⟨fun w hw => ?_, hs⟩
      rcases List.mem_cons.1 hw with q | q
      · subst q; exact h1
      · exact cC_trans h1 (h.1 w q)
    · rename_i h1
      split
      · rename_i h2
        have he := cC_zero.1 h2
        exact List.pairwise_cons.2 ⟨fun w hw => by rw [he]; exact h.1 w hw, h.2⟩
      · rename_i h2
        refine List.pairwise_cons.2 ⟨fun w hw => ?_, ih⟩
        rcases (mem_set h.2).1 hw with q | ⟨q, _⟩
        · subst q
          have := cC_range (key w) (key z)
          have := cC_anti (key z) (key w)
          omega
        · exact h.1 w q
theorem pw_set {P : α -> α -> Prop} {x : α} : ∀ {S : List α}, SortK key S -> S.Pairwise P -> (∀ y ∈ S, key y ≠ key x -> P x y ∧ P y x) -> (setK key S x).Pairwise P
  | [], _, _, _ => by simp [setK]
  | z :: r, hs, hp, hx => by
    have h := List.pairwise_cons.1 hs
    have hp' := List.pairwise_cons.1 hp
    have ih := pw_set (x := x) h.2 hp'.2 fun y hy => hx y (List.mem_cons_of_mem _ hy)
    unfold setK
    split
    · rename_i h1
      refine List.pairwise_cons.2 ⟨fun w hw => (hx w hw fun e => ?_).1, hp⟩
      rcases List.mem_cons.1 hw with q | q
      · subst q; rw [e, cC_self] at h1; omega
      · have := cC_trans h1 (h.1 w q); rw [e, cC_self] at this; omega
    · rename_i h1
      split
      · rename_i h2
        have he := cC_zero.1 h2
        refine List.pairwise_cons.2 ⟨fun w hw => (hx w (List.mem_cons_of_mem _ hw) fun e => ?_).1, hp'.2⟩
        have := h.1 w hw
        rw [e, ← he, cC_self] at this; omega
      · rename_i h2
        have hne : key z ≠ key x := fun e => h2 (cC_zero.2 e.symm)
        refine List.pairwise_cons.2 ⟨fun w hw => ?_, ih⟩
        rcases (mem_set h.2).1 hw with q | ⟨q, _⟩
        · subst q; exact (hx z (by simp) hne).2
        · exact hp'.1 w q
theorem sum_set {x : α} (f : α -> Nat) : ∀ {S : List α}, SortK key S -> ((setK key S x).map f).sum + ((getK key S (key x)).map f).getD 0 = (S.map f).sum + f x
  | [], _ => by simp [setK, getK]
  | z :: r, hs => by
    have h := List.pairwise_cons.1 hs
    have ih := sum_set (x := x) f h.2
    unfold setK
    split
    · rename_i h1
      have hn : getK key (z :: r) (key x) = none := by
        unfold getK
        rw [List.find?_eq_none]
        intro w hw
        have : cmpC (key x) (key w) = -1 := by
          rcases List.mem_cons.1 hw with q | q
          · subst q; exact h1
          · exact cC_trans h1 (h.1 w q)
        have := cC_anti (key w) (key x)
        simp; omega
      rw [hn]; simp; omega
    · rename_i h1
      split
      · rename_i h2
        have he := cC_zero.1 h2
        have hs' : getK key (z :: r) (key x) = some z := by
          unfold getK; rw [List.find?_cons, ← he]; simp [cC_self]
        rw [hs']; simp; omega
      · rename_i h2
        have hne : ¬ cmpC (key z) (key x) = 0 := fun e => h2 (cC_zero.2 (cC_zero.1 e).symm)
        have hs' : getK key (z :: r) (key x) = getK key r (key x) := by
          unfold getK; rw [List.find?_cons]; simp [hne]
        rw [hs']; simp; omega
theorem map_set {β : Type} {key' : β -> Cel} (f : α -> β) (hk : ∀ x, key' (f x) = key x) {x : α} : ∀ (S : List α), (setK key S x).map f = setK key' (S.map f) (f x)
  | [] => rfl
  | z :: r => by
    have ih := map_set f hk (x := x) r
    show _ = setK key' (f z :: r.map f) (f x)
    unfold setK
    rw [hk, hk]
    split
    · rfl
    · split
      · rfl
      · rw [List.map_cons, ih]
theorem map_get {β : Type} {key' : β -> Cel} (f : α -> β) (hk : ∀ x, key' (f x) = key x) {c : Cel} : ∀ (S : List α), getK key' (S.map f) c = (getK key S c).map f
  | [] => rfl
  | z :: r => by
    have ih := map_get f hk (c := c) r
    unfold getK at ih ⊢
    rw [List.map_cons, List.find?_cons, List.find?_cons, hk, ih]
    split <;> simp_all
end
abbrev Ver := C.Ver
abbrev zA := C.zA
abbrev SL := List (Cel × List Ver)
def okC (c : Cel) : Int := if c.View < 0 ∨ c.View >= 4 then 23 else if (c.Key.size : Int) < 1 ∨ (c.Key.size : Int) > 32 then 21 else if c.Start < -2305843009213693952 ∨ c.Start > 2305843009213693952 then 22 else 0
theorem ok_may {c : Cel} (h : okC c = 0) : mayC c = 0 := by
  unfold okC at h
  unfold mayC
  split at h
  · cases h
  · rename_i h1
    rw [if_neg (by omega)]
    split at h
    · cases h
    · rename_i h2
      rw [if_neg (by omega)]
      split at h
      · cases h
      · rename_i h3; rw [if_neg h3]
theorem ok_start {c : Cel} (h : okC c = 0) : I64n c.Start := by
  unfold okC at h
  split at h
  · cases h
  · split at h
    · cases h
    · split at h
      · cases h
      · unfold I64n; omega
def keyB (c : Cel) : ByteArray := ⟨(keyL c).toArray⟩
theorem kL_keyB (c : Cel) : kL (keyB c) = keyL c := by simp [keyB, kL]
theorem key_size {c : Cel} (h : okC c = 0) : (keyL c).length <= 100 := by
  obtain ⟨h1, h2, h3⟩ := may_view (ok_may h)
  have := escL_len c.Key.data.toList
  have h4 : c.Key.data.toList.length = c.Key.size := (size_data).symm
  unfold keyL
  simp [beT_len]
  omega
theorem key_inj {a b : Cel} (ha : okC a = 0) (hb : okC b = 0) (h : keyL a = keyL b) : a = b := by
  have h1 := cell_back (ok_may ha) (ok_start ha)
  have h2 := cell_back (ok_may hb) (ok_start hb)
  rw [h, h2] at h1
  exact (congrArg Prod.fst h1).symm
abbrev alive (vs : List Ver) : Bool := (C.newestM vs).2.2
def unitsV (vs : List Ver) : Nat := vs.length + (if alive vs then 1 else 0)
def aliveN (vs : List Ver) : Nat := if alive vs then 1 else 0
def unitsS (S : SL) : Nat := (S.map fun x => unitsV x.2).sum
def thereS (S : SL) : Nat := (S.map fun x => aliveN x.2).sum
abbrev getS (S : SL) (c : Cel) : Option (List Ver) := (getK (·.1) S c).map (·.2)
abbrev setS (S : SL) (c : Cel) (vs : List Ver) : SL := setK (·.1) S (c, vs)
abbrev SortS (S : SL) : Prop := SortK (·.1) S
def atV (vs : List Ver) (e : Int) : S_api_Agg × Bool := if e = 0 then ((C.newestM vs).1, alive vs) else C.atM vs e
def atS (S : SL) (c : Cel) (e : Int) : S_api_Agg := if okC c ≠ 0 then zA else match getS S c with
  | some vs => (atV vs e).1
  | none => zA
def rowS (e : Int) (x : Cel × List Ver) : S_api_Row := ⟨x.1, (atV x.2 e).1⟩
def inS (e : Int) (fr to : Cel) (x : Cel × List Ver) : Bool := (atV x.2 e).2 && (decide (cmpC fr x.1 <= 0) && decide (cmpC x.1 to < 0))
def rangeS (S : SL) (e : Int) (fr to : Cel) : List S_api_Row := (S.filter (inS e fr to)).map (rowS e)
def needV (o : Option (List Ver)) (e : Int) : Int := match o with
  | none => 2
  | some vs => if (C.newestM vs).2.1 > e then 0 else if (C.newestM vs).2.1 = e ∧ alive vs = true then 0 else if (C.newestM vs).2.1 = e ∨ alive vs = true then 1 else 2
def needS (S : SL) (e : Int) (c : Cel) : Int := if okC c ≠ 0 then 0 else needV (getS S c) e
def pruneS (S : SL) (E : List Int) : SL := (S.map fun x => (x.1, C.pruneM x.2 E)).filter fun x => !x.2.isEmpty
structure VOk (vs : List Ver) : Prop where
  ne : vs ≠ []
  rise : C.Rise vs
  dead : ∀ v ∈ vs, v.dead = true -> v.value = zA
  ep : ∀ v ∈ vs, 1 <= v.epoch ∧ v.epoch <= 1099511627776
structure SOk (S : SL) : Prop where
  sort : SortS S
  ok : ∀ x ∈ S, okC x.1 = 0 ∧ VOk x.2
theorem unitsV_pos {vs : List Ver} (h : vs ≠ []) : 1 <= unitsV vs := by
  have := List.length_pos_iff.2 h
  unfold unitsV; omega
theorem len_units {S : SL} (h : SOk S) : S.length <= unitsS S := by
  have : ∀ (S : SL), (∀ x ∈ S, x.2 ≠ []) -> S.length <= unitsS S := fun S => by
    induction S with
    | nil => intro _; simp [unitsS]
    | cons x r ih =>
      intro hx
      have h1 := ih fun y hy => hx y (by simp [hy])
      have h2 := unitsV_pos (hx x (by simp))
      unfold unitsS at h1 ⊢
      rw [List.map_cons, List.sum_cons, List.length_cons]; omega
  exact this S fun x hx => (h.ok x hx).2.ne
theorem ver_units {S : SL} {x : Cel × List Ver} (hx : x ∈ S) : x.2.length <= unitsS S := by
  induction S with
  | nil => cases hx
  | cons y r ih =>
    unfold unitsS at ih ⊢
    rw [List.map_cons, List.sum_cons]
    rcases List.mem_cons.1 hx with e | e
    · subst e; unfold unitsV; omega
    · have := ih e; omega
theorem alive_le (vs : List Ver) : aliveN vs <= unitsV vs := by unfold aliveN unitsV; omega
theorem there_le {S : SL} : thereS S <= unitsS S := by
  induction S with
  | nil => simp [thereS, unitsS]
  | cons y r ih =>
    unfold unitsS thereS at ih ⊢
    rw [List.map_cons, List.sum_cons, List.map_cons, List.sum_cons]
    have := alive_le y.2
    omega
end Go.Proofs.YtjjchpaomgmmdaaGreat.V.S
namespace Go.Proofs.YtjjchpaomgmmdaaGreat.V
open Go
set_option linter.unusedVariables false
set_option linter.unusedSimpArgs false
theorem own_neG {h : H} {s : Sl} {n : Nat} {cs : List Value} {k : Nat} {c : Array Value} {e e' : TypeId} (w : Owns h s e k cs) (b : Blk h n c e') (he : e ≠ e') : s.blk ≠ some n := fun hb => by
  obtain ⟨_, ⟨q1, _, _⟩ | ⟨b', c', q1, q2, _⟩⟩ := w
  · simp [Sl.blk, q1] at hb
  · simp [Sl.blk, q1] at hb
    subst hb
    have := q2.symm.trans b
    simp at this
    exact he this.2
section
variable {α : Type} {f : α -> List Value} {kk : Nat} {e : TypeId} {n : Nat} {h0 h h' : H} {A M : Nat -> Sl} {D T : Nat -> List α}
end
end Go.Proofs.YtjjchpaomgmmdaaGreat.V
namespace Go.Proofs.YtjjchpaomgmmdaaGreat.V.S
open Go Go.Proofs.YtjjchpaomgmmdaaGreat.V
set_option linter.unusedVariables false
set_option linter.unusedSimpArgs false
set_option maxRecDepth 20000
theorem key_spec {h : H} {c : Cel} {Q : ByteArray -> Int -> H -> Prop} (k0 : okC c ≠ 0 -> ∀ h', Ext h h' -> Q ⟨#[]⟩ (okC c) h') (k1 : okC c = 0 -> ∀ h', Ext h h' -> Q (keyB c) 0 h') : F.xaf c h Q := by
  unfold F.xaf
  refine new_of fun n h1 hn b1 e1 s1 => ?_
  have c0 : cellH h1 ⟨n, 0, none⟩ = some (.int .i64 c.View) := Blk.cells b1 0 _ rfl
  have c1 : cellH h1 ⟨n, 1, none⟩ = some (.string c.Key) := Blk.cells b1 1 _ rfl
  have c2 : cellH h1 ⟨n, 2, none⟩ = some (.int .i64 c.Start) := Blk.cells b1 2 _ rfl
  have j1 : okC c = 0 -> F.xaf.j1 Q ⟨n, 0, none⟩ h1 := fun g => by
    unfold F.xaf.j1
    refine ⟨c, Blk.cells b1, Key_spec (fun g2 => absurd (ok_may g) g2) fun _ h2 e2 => k1 g h2 (e1.trans e2)⟩
  have j4 : ∀ b : Bool, (b = true -> okC c = 22) -> (b = false -> okC c = 0) -> F.xaf.j4 Q ⟨n, 0, none⟩ b h1 := fun b q1 q2 => by
    unfold F.xaf.j4
    refine ⟨fun g => ?_, fun g => j1 (q2 g)⟩
    have := k0 (by rw [q1 g]; decide) h1 e1
    rw [q1 g] at this; exact this
  have j3 : ∀ b : Bool, (b = true -> okC c = 21) -> (b = false -> okC c = if c.Start < -2305843009213693952 ∨ c.Start > 2305843009213693952 then 22 else 0) -> F.xaf.j3 Q ⟨n, 0, none⟩ b h1 := fun b q1 q2 => by
    unfold F.xaf.j3
    simp only [add_lit, Nat.zero_add, Nat.add_zero]
    refine ⟨fun g => ?_, fun g => ?_⟩
    · have := k0 (by rw [q1 g]; decide) h1 e1
      rw [q1 g] at this; exact this
    · have hq := q2 g
      rw [ldI_iff c2]
      refine ⟨fun g2 => j4 true (fun _ => ?_) fun h => (by cases h), fun g2 => ?_⟩
      · have g2 := of_decide_eq_true g2
        rw [hq, if_pos (.inl g2)]
      · have g2 := of_decide_eq_false g2
        rw [ldI_iff c2]
        refine j4 _ (fun g3 => ?_) fun g3 => ?_
        · have g3 := of_decide_eq_true g3
          rw [hq, if_pos (.inr g3)]
        · have g3 := of_decide_eq_false g3
          rw [hq, if_neg (by omega)]
  have j2 : ∀ b : Bool, (b = true -> okC c = 23) -> (b = false -> okC c = if (c.Key.size : Int) < 1 ∨ (c.Key.size : Int) > 32 then 21 else if c.Start < -2305843009213693952 ∨ c.Start > 2305843009213693952 then 22 else 0) -> F.xaf.j2 Q ⟨n, 0, none⟩ b h1 := fun b q1 q2 => by
    unfold F.xaf.j2
    simp only [add_lit, Nat.zero_add, Nat.add_zero]
    refine ⟨fun g => ?_, fun g => ?_⟩
    · have := k0 (by rw [q1 g]; decide) h1 e1
      rw [q1 g] at this; exact this
    · have hq := q2 g
      rw [ldS_iff c1]
      refine ⟨fun g2 => j3 true (fun _ => ?_) fun h => (by cases h), fun g2 => ?_⟩
      · have g2 := of_decide_eq_true g2
        rw [hq, if_pos (.inl g2)]
      · have g2 := of_decide_eq_false g2
        rw [ldS_iff c1]
        refine j3 _ (fun g3 => ?_) fun g3 => ?_
        · have g3 := of_decide_eq_true g3
          rw [hq, if_pos (.inr g3)]
        · have g3 := of_decide_eq_false g3
          rw [hq, if_neg (by omega)]
  simp only [add_lit, Nat.zero_add, Nat.add_zero]
  rw [ldI_iff c0]
  refine ⟨fun g2 => j2 true (fun _ => ?_) fun h => (by cases h), fun g2 => ?_⟩
  · have g2 := of_decide_eq_true g2
    unfold okC; rw [if_pos (.inl g2)]
  · have g2 := of_decide_eq_false g2
    rw [ldI_iff c0]
    refine j2 _ (fun g3 => ?_) fun g3 => ?_
    · have g3 := of_decide_eq_true g3
      unfold okC; rw [if_pos (.inr g3)]
    · have g3 := of_decide_eq_false g3
      unfold okC; rw [if_neg (by omega)]
structure Rec where
  c : Cel
  vs : List Ver
  p : Nat
  B : Option Nat
abbrev toS (Z : List Rec) : SL := Z.map fun r => (r.c, r.vs)
def ShE (e : TypeId) : Prop := e = tn_shard_Shard ∨ e = tn_table_Table_chain_Chain_api_Agg ∨ e = tn_table_place_chain_Chain_api_Agg ∨ e = tn_chain_Chain_api_Agg ∨ e = tn_chain_version_api_Agg
def ShTy (h : H) (b : Nat) : Prop := ∃ e, ShE e ∧ WB h b e
structure SZG (W : List Ver -> Prop) (h : H) (n tn : Nat) (rs es : Sl) (T : Tb (Option Addr)) (Z : List Rec) (slots : Nat) (R : Nat -> Prop) (u t : Int) : Prop where
  sb : Blk h n #[.int .i64 u, .int .i64 t, .int .i64 (slots : Int), .pointer (some ⟨tn, 0, none⟩)] tn_shard_Shard
  th : P.TH h tn rs es T
  ok : TOk T
  ch : ∀ r ∈ Z, C.Ch h r.p r.vs r.B
  get : ∀ r ∈ Z, getM T (keyB r.c) = some (some ⟨r.p, 0, none⟩)
  all : ∀ k v, getM T k = some v -> ∃ r ∈ Z, kL k = keyL r.c
  srt : SortK Rec.c Z
  pd : Z.Pairwise fun a b => a.p ≠ b.p
  bd : Z.Pairwise fun a b => ∀ x, a.B = some x -> b.B ≠ some x
  wf : ∀ r ∈ Z, okC r.c = 0 ∧ W r.vs
  us : unitsS (toS Z) <= slots
  sl : slots <= 1048576
  rl : T.row.length <= 4200000
  rn : R n
  rt : R tn
  rr : ∀ b, rs.blk = some b -> R b
  re : ∀ b, es.blk = some b -> R b
  rp : ∀ r ∈ Z, R r.p ∧ ∀ x, r.B = some x -> R x
abbrev SZ := SZG VOk
theorem toS_ok {h : H} {n tn : Nat} {rs es : Sl} {T : Tb (Option Addr)} {Z : List Rec} {slots : Nat} {R : Nat -> Prop} {u t : Int} (z : SZ h n tn rs es T Z slots R u t) : SOk (toS Z) := by
  refine ⟨?_, fun x hx => ?_⟩
  · unfold SortS SortK; rw [List.pairwise_map]; exact z.srt
  · obtain ⟨r, hr, rfl⟩ := List.mem_map.1 hx
    exact z.wf r hr
section
variable {W : List Ver -> Prop} {h h' : H} {n tn : Nat} {rs es : Sl} {T : Tb (Option Addr)} {Z : List Rec} {slots : Nat} {R : Nat -> Prop} {u t : Int}
theorem ch_typ {p : Nat} {L : List Ver} {B : Option Nat} (c : C.Ch h p L B) : WB h p tn_chain_Chain_api_Agg ∧ ∀ b, B = some b -> WB h b tn_chain_version_api_Agg := by
  obtain ⟨s, h1, h2, h3, h4⟩ := c
  exact ⟨⟨_, h1⟩, fun b hb => h2.typ (by rw [h3]; exact hb)⟩
theorem SZG.keep {S : Nat -> Prop} (z : SZG W h n tn rs es T Z slots R u t) (o : Only S h h') (hn : ∀ b, R b -> ShTy h b -> ¬ S b) : SZG W h' n tn rs es T Z slots R u t := by
  refine { z with sb := o.block z.sb (hn n z.rn ⟨_, .inl rfl, _, z.sb⟩), th := z.th.only o fun b hb => ?_, ch := fun r hr => ?_ }
  · rcases hb with hb | hb | hb
    · subst hb; exact hn _ z.rt ⟨_, .inr (.inl rfl), _, z.th.tb⟩
    · exact hn _ (z.rr b hb) ⟨_, .inr (.inr (.inl rfl)), z.th.row.typ hb⟩
    · exact hn _ (z.re b hb) ⟨_, .inr (.inr (.inl rfl)), z.th.el.typ hb⟩
  · have := ch_typ (z.ch r hr)
    exact (z.ch r hr).only o (hn _ (z.rp r hr).1 ⟨_, .inr (.inr (.inr (.inl rfl))), this.1⟩) fun b hb => hn _ ((z.rp r hr).2 b hb) ⟨_, .inr (.inr (.inr (.inr rfl))), this.2 b hb⟩
theorem SZG.ext (z : SZG W h n tn rs es T Z slots R u t) (e : Ext h h') : SZG W h' n tn rs es T Z slots R u t := z.keep e fun _ _ _ f => f
theorem SZG.len (z : SZG VOk h n tn rs es T Z slots R u t) : Z.length <= 1048576 := by
  have h1 := len_units (toS_ok z)
  have h2 := z.us
  have h3 := z.sl
  rw [show (toS Z).length = Z.length from List.length_map _] at h1
  omega
theorem SZG.vlen (z : SZG W h n tn rs es T Z slots R u t) {r : Rec} (hr : r ∈ Z) : r.vs.length <= 1048576 := by
  have h1 := ver_units (S := toS Z) (x := (r.c, r.vs)) (List.mem_map.2 ⟨r, hr, rfl⟩)
  have h2 := z.us
  have h3 := z.sl
  simp only at h1
  omega
theorem SZG.cs0 (z : SZG W h n tn rs es T Z slots R u t) : cellH h ⟨n, 0, none⟩ = some (.int .i64 u) := z.sb.cell rfl
theorem SZG.cs1 (z : SZG W h n tn rs es T Z slots R u t) : cellH h ⟨n, 1, none⟩ = some (.int .i64 t) := z.sb.cell rfl
theorem SZG.cs2 (z : SZG W h n tn rs es T Z slots R u t) : cellH h ⟨n, 2, none⟩ = some (.int .i64 (slots : Int)) := z.sb.cell rfl
theorem SZG.cs3 (z : SZG W h n tn rs es T Z slots R u t) : cellH h ⟨n, 3, none⟩ = some (.pointer (some ⟨tn, 0, none⟩)) := z.sb.cell rfl
theorem SZG.look (z : SZG W h n tn rs es T Z slots R u t) {c : Cel} (hc : okC c = 0) : getM T (keyB c) = (getK Rec.c Z c).map fun r => some ⟨r.p, 0, none⟩ := by
  cases hg : getK Rec.c Z c with
  | some r =>
    obtain ⟨h1, h2⟩ := getK_some hg
    subst h2
    exact z.get r h1
  | none =>
    cases hm : getM T (keyB c) with
    | none => rfl
    | some v =>
      obtain ⟨r, hr, he⟩ := z.all _ _ hm
      rw [kL_keyB] at he
      exact absurd (key_inj hc (z.wf r hr).1 he).symm (getK_none hg r hr)
theorem SZG.getS (z : SZG W h n tn rs es T Z slots R u t) (c : Cel) : S.getS (toS Z) c = (getK Rec.c Z c).map (·.vs) := by
  show (getK _ (Z.map _) c).map _ = _
  rw [map_get (key := Rec.c) (key' := fun x : Cel × List Ver => x.1) (fun r : Rec => (r.c, r.vs)) (fun _ => rfl), Option.map_map]
  rfl
theorem key_small {c : Cel} (h : okC c = 0) : SmallK (keyB c) := by
  have := key_size h
  show (keyL c).toArray.size <= _
  simp; omega
end
def SH (h : H) (n : Nat) (S : SL) (slots : Nat) (R : Nat -> Prop) : Prop := ∃ tn rs es T Z, toS Z = S ∧ SZ h n tn rs es T Z slots R (unitsS (toS Z) : Int) (thereS (toS Z) : Int)
section
variable {h h' : H} {n : Nat} {S : SL} {slots : Nat} {R : Nat -> Prop}
theorem SH.keep {P : Nat -> Prop} (s : SH h n S slots R) (o : Only P h h') (hn : ∀ b, R b -> ShTy h b -> ¬ P b) : SH h' n S slots R := by
  obtain ⟨tn, rs, es, T, Z, h1, z⟩ := s
  exact ⟨tn, rs, es, T, Z, h1, z.keep o hn⟩
theorem SH.ext (s : SH h n S slots R) (e : Ext h h') : SH h' n S slots R := s.keep e fun _ _ _ f => f
theorem SH.ok (s : SH h n S slots R) : SOk S := by
  obtain ⟨tn, rs, es, T, Z, rfl, z⟩ := s
  exact toS_ok z
theorem SH.us (s : SH h n S slots R) : unitsS S <= slots ∧ slots <= 1048576 := by
  obtain ⟨tn, rs, es, T, Z, rfl, z⟩ := s
  exact ⟨z.us, z.sl⟩
theorem SH.oth (s : SH h n S slots R) {t : Sl} {e : TypeId} {k : Nat} {cs : List Value} (o : Only (fun b => t.blk = some b) h h') (w : Owns h t e k cs) (he : ¬ ShE e) : SH h' n S slots R :=
  s.keep o fun b _ ⟨e', h1, c', h2⟩ hb => he (by
    obtain ⟨c, h3⟩ := w.typ hb
    have := h3.symm.trans h2
    simp at this
    rw [this.2]; exact h1)
abbrev SOnly (R : Nat -> Prop) (h h' : H) : Prop := Only (fun b => R b ∧ ShTy h b) h h'
theorem ShTy.back {S : Nat -> Prop} (o : Only S h h') {b : Nat} (hb : b < h.size) (hs : ¬ S b) (t : ShTy h' b) : ShTy h b := by
  obtain ⟨e, h1, c, h2⟩ := t
  exact ⟨e, h1, c, (o.same b hb hs).symm.trans h2⟩
theorem SOnly.trans {h'' : H} (a : SOnly R h h') (b : SOnly R h' h'') : SOnly R h h'' := Only.trans a b fun m hm ⟨h1, h2⟩ => by
  by_cases hs : ShTy h m
  · exact ⟨h1, hs⟩
  · exact ⟨h1, ShTy.back a hm (fun h => hs h.2) h2⟩
theorem SOnly.of (e : Ext h h') : SOnly R h h' := Ext.only e
theorem SOnly.owns (a : SOnly R h h') {t : Sl} {e : TypeId} {k : Nat} {cs : List Value} (w : Owns h t e k cs) (he : ¬ ShE e) : Owns h' t e k cs := w.only a fun b hb ⟨_, e', h1, c', h2⟩ => he (by
  obtain ⟨c, h3⟩ := w.typ hb
  have := h3.symm.trans h2
  simp at this
  rw [this.2]; exact h1)
theorem SOnly.base {h0 : H} (e : Ext h0 h) (a : SOnly R h h') (hR : ∀ b, R b -> h0.size <= b) : Ext h0 h' := e.step a fun m hm hb => by have := hR m hb.1; omega
end
theorem row_sh : ¬ ShE tn_api_Row := by
  unfold ShE; decide
theorem Units_spec {h : H} {n : Nat} {S : SL} {slots : Nat} {R : Nat -> Prop} {Q : Int -> H -> Prop} (s : SH h n S slots R) (k : Q (unitsS S : Int) h) : F.xcn (some ⟨n, 0, none⟩) h Q := by
  obtain ⟨tn, rs, es, T, Z, rfl, z⟩ := s
  unfold F.xcn
  simp only [nn_some, add_lit, Nat.add_zero]
  rw [ldI_iff z.cs0]; exact k
theorem Cells_spec {h : H} {n : Nat} {S : SL} {slots : Nat} {R : Nat -> Prop} {Q : Int -> H -> Prop} (s : SH h n S slots R) (k : Q (thereS S : Int) h) : F.xco (some ⟨n, 0, none⟩) h Q := by
  obtain ⟨tn, rs, es, T, Z, rfl, z⟩ := s
  unfold F.xco
  simp only [nn_some, add_lit, Nat.zero_add]
  rw [ldI_iff z.cs1]; exact k
theorem New_spec {h : H} {m : Int} {R : Nat -> Prop} {Q : Option Addr -> Int -> H -> Prop} (k0 : (m < 2 ∨ m > 1048576) -> Q none 1 h)
    (hR : ∀ b, h.size <= b -> R b) (k1 : 2 <= m -> m <= 1048576 -> ∀ h' n, SH h' n [] m.toNat R -> Ext h h' -> h.size <= n -> Q (some ⟨n, 0, none⟩) 0 h') : F.xas m h Q := by
  have j1 : 2 <= m -> m <= 1048576 -> F.xas.j1 Q m h := fun h1 h2 => by
    unfold F.xas.j1
    refine P.New_spec fun h3 tn rs th e3 hft => ?_
    refine new_of fun n h4 hn b4 e4 s4 => ?_
    have g := new_ok (P.nilA)
    have e3s := e3.size
    refine k1 h1 h2 h4 n ⟨tn, rs, ⟨none, 0, 0⟩, newT P.nilA, [], rfl, ?_⟩ (e3.trans e4) (by omega)
    refine { sb := ?_, th := th.ext e4, ok := g.1, ch := (fun r hr => by cases hr), get := (fun r hr => by cases hr), all := fun k v hk => ?_, srt := List.Pairwise.nil, pd := List.Pairwise.nil, bd := List.Pairwise.nil, wf := (fun r hr => by cases hr), us := Nat.zero_le _, sl := by omega, rl := (by show (newT P.nilA).row.length <= _; simp [newT]), rn := hR _ (by omega), rt := hR _ (hft _ (.inl rfl)), rr := fun b hb => hR _ (hft _ (.inr (.inl hb))), re := fun b hb => hR _ (hft _ (.inr (.inr hb))), rp := (fun r hr => by cases hr) }
    · have hm : ((m.toNat : Nat) : Int) = m := by omega
      rw [hm]; exact b4
    · rw [g.2.2] at hk; cases hk
  unfold F.xas F.xas.j2
  refine ⟨fun g => ⟨fun _ => k0 (.inl (of_decide_eq_true g)), fun h => by cases h⟩, fun g => ⟨fun g2 => k0 (.inr (of_decide_eq_true g2)), fun g2 => ?_⟩⟩
  exact j1 (by have := of_decide_eq_false g; omega) (by have := of_decide_eq_false g2; omega)
theorem chain_spec {h : H} {n tn : Nat} {rs es : Sl} {T : Tb (Option Addr)} {Z : List Rec} {slots : Nat} {R : Nat -> Prop} {u t : Int} {c : Cel} {Q : Option Addr -> H -> Prop} (z : SZ h n tn rs es T Z slots R u t)
    (k0 : (okC c ≠ 0 ∨ getK Rec.c Z c = none) -> ∀ h', Ext h h' -> Q none h') (k1 : okC c = 0 -> ∀ r, getK Rec.c Z c = some r -> ∀ h', Ext h h' -> Q (some ⟨r.p, 0, none⟩) h') : F.xby (some ⟨n, 0, none⟩) c h Q := by
  unfold F.xby
  refine new_of fun m h1 hm b1 e1 s1 => ⟨c, Blk.cells b1, ?_⟩
  refine key_spec (fun g h2 e2 => ⟨fun _ => k0 (.inl g) h2 (e1.trans e2), fun g2 => absurd (by simpa using g2) g⟩) fun g h2 e2 => ⟨fun g2 => by simp at g2, fun _ => ?_⟩
  have z2 := z.ext (e1.trans e2)
  simp only [nn_some, add_lit, Nat.zero_add]
  rw [ldP_iff z2.cs3]
  refine P.Get_spec z2.th z2.ok (key_small g) fun h3 e3 => ?_
  rw [z2.look g]
  have e13 := (e1.trans e2).trans e3
  cases hg : getK Rec.c Z c with
  | none => exact k0 (.inr hg) h3 e13
  | some r => exact k1 g r hg h3 e13
theorem at_none {h : H} {e : Int} {Q : S_api_Agg -> Bool -> H -> Prop} (k : ∀ h', Ext h h' -> Q zA false h') : F.xbx none e h Q := by
  unfold F.xbx
  refine new_of fun m h1 hm b1 e1 s1 => ⟨fun _ => ?_, fun g => by cases g⟩
  have b1' : Blk h1 m zA.cells.toArray tn_api_Agg := b1
  refine C.st_agg b1' (d := zA) fun h2 b2 o2 s2 => ⟨zA, b2.cells, k h2 (e1.step o2 fun x hx hb => by omega)⟩
theorem at_spec {h : H} {p : Nat} {vs : List Ver} {B : Option Nat} {e : Int} {Q : S_api_Agg -> Bool -> H -> Prop} (c : C.Ch h p vs B) (hr : C.Rise vs) (hl : vs.length < 1073741824) (k : ∀ h', Ext h h' -> Q (atV vs e).1 (atV vs e).2 h') : F.xbx (some ⟨p, 0, none⟩) e h Q := by
  unfold F.xbx
  unfold atV at k
  refine new_of fun m h1 hm b1 e1 s1 => ⟨fun g => by simp at g, fun _ => ⟨fun g => ?_, fun g => ?_⟩⟩
  · have g : e = 0 := by simpa using g
    rw [if_pos g] at k
    have b1' : Blk h1 m zA.cells.toArray tn_api_Agg := b1
    refine C.Newest_spec (c.ext e1) (by omega) fun h2 e2 => ?_
    refine new_of fun m3 h3 hm3 b3 e3 s3 => ?_
    have b3' : Blk h3 m3 zA.cells.toArray tn_api_Agg := b3
    refine C.st_agg b3' fun h4 b4 o4 s4 => ⟨_, b4.cells, ?_⟩
    have e2s := e2.size
    have e14 : Ext h1 h4 := (e2.trans e3).step o4 fun x hx hb => by omega
    have b14 := e14.block b1' fun f => f
    refine C.st_agg b14 fun h5 b5 o5 s5 => ⟨_, b5.cells, ?_⟩
    exact k h5 ((e1.trans e14).step o5 fun x hx hb => by omega)
  · have g : e ≠ 0 := by simpa using g
    rw [if_neg g] at k
    have b1' : Blk h1 m zA.cells.toArray tn_api_Agg := b1
    refine C.At_spec (c.ext e1) hr hl fun h2 e2 => ?_
    refine C.st_agg (e2.block b1' fun f => f) fun h5 b5 o5 s5 => ⟨_, b5.cells, ?_⟩
    exact k h5 ((e1.trans e2).step o5 fun x hx hb => by omega)
theorem At_spec {h : H} {n : Nat} {S : SL} {slots : Nat} {R : Nat -> Prop} {c : Cel} {e : Int} {Q : S_api_Agg -> H -> Prop} (s : SH h n S slots R) (k : ∀ h', Ext h h' -> Q (atS S c e) h') : F.xcb (some ⟨n, 0, none⟩) c e h Q := by
  obtain ⟨tn, rs, es, T, Z, rfl, z⟩ := s
  unfold F.xcb
  refine new_of fun m h1 hm b1 e1 s1 => new_of fun m2 h2 hm2 b2 e2 s2 => ⟨c, (Blk.cells b1).ext e2, ?_⟩
  have e12 := e1.trans e2
  have b2' : Blk h2 m2 zA.cells.toArray tn_api_Agg := b2
  have z2 := z.ext e12
  have tail : ∀ (a : S_api_Agg) (h3 : H), Ext h2 h3 -> a = atS (toS Z) c e -> new h3 (((⟨0, 0, 0, 0⟩ : S_api_Agg) : S_api_Agg).cells.toArray) tn_api_Agg fun a13 h12 => stH h12 a13 a.cells fun h14 => ld_S_api_Agg h14 a13 fun y15 => stH h14 ⟨m2, 0, none⟩ y15.cells fun h17 => ld_S_api_Agg h17 ⟨m2, 0, none⟩ fun y18 => Q y18 h17 := fun a h3 e3 ha => by
    refine new_of fun m4 h4 hm4 b4 e4 s4 => ?_
    have b4' : Blk h4 m4 zA.cells.toArray tn_api_Agg := b4
    refine C.st_agg b4' fun h5 b5 o5 s5 => ⟨_, b5.cells, ?_⟩
    have z3 := e3.size
    have e25 : Ext h2 h5 := (e3.trans e4).step o5 fun x hx hb => by omega
    refine C.st_agg (e25.block b2' fun f => f) fun h6 b6 o6 s6 => ⟨_, b6.cells, ?_⟩
    rw [ha]
    exact k h6 ((e12.trans e25).step o6 fun x hx hb => by have := e1.size; omega)
  refine chain_spec z2 (fun g h3 e3 => at_none fun h4 e4 => tail _ h4 (e3.trans e4) ?_) fun g r hr h3 e3 => ?_
  · unfold atS
    split
    · rfl
    · rename_i g2
      rcases g with g | g
      · exact absurd g g2
      · rw [z.getS, g]; rfl
  · obtain ⟨h5, h6⟩ := getK_some hr
    refine at_spec ((z2.ch r h5).ext e3) (z.wf r h5).2.rise (by have := z.vlen h5; omega) fun h4 e4 => tail _ h4 (e3.trans e4) ?_
    unfold atS
    rw [if_neg (fun h => h g), z.getS, hr]; rfl
theorem Get_spec {h : H} {n : Nat} {S : SL} {slots : Nat} {R : Nat -> Prop} {c : Cel} {Q : S_api_Agg -> H -> Prop} (s : SH h n S slots R) (k : ∀ h', Ext h h' -> Q (atS S c 0) h') : F.xcm (some ⟨n, 0, none⟩) c h Q := by
  unfold F.xcm
  refine new_of fun m h1 hm b1 e1 s1 => new_of fun m2 h2 hm2 b2 e2 s2 => ⟨c, (Blk.cells b1).ext e2, ?_⟩
  have e12 := e1.trans e2
  have b2' : Blk h2 m2 zA.cells.toArray tn_api_Agg := b2
  refine At_spec (s.ext e12) fun h3 e3 => ?_
  refine C.st_agg (e3.block b2' fun f => f) fun h6 b6 o6 s6 => ⟨_, b6.cells, ?_⟩
  exact k h6 ((e12.trans e3).step o6 fun x hx hb => by have := e1.size; omega)
theorem need_spec {h : H} {n tn : Nat} {rs es : Sl} {T : Tb (Option Addr)} {Z : List Rec} {slots : Nat} {R : Nat -> Prop} {u t : Int} {c : Cel} {e : Int} {Q : Int -> H -> Prop} (z : SZ h n tn rs es T Z slots R u t) (k : ∀ h', Ext h h' -> Q (needS (toS Z) e c) h') : F.xba (some ⟨n, 0, none⟩) e c h Q := by
  unfold F.xba
  unfold needS at k
  refine new_of fun m h1 hm b1 e1 s1 => ⟨c, Blk.cells b1, ?_⟩
  refine key_spec (fun g h2 e2 => ⟨fun _ => ?_, fun g2 => absurd (by simpa using g2) g⟩) fun g h2 e2 => ⟨fun g2 => by simp at g2, fun _ => ⟨c, (Blk.cells b1).ext e2, ?_⟩⟩
  · rw [if_pos g] at k; exact k h2 (e1.trans e2)
  rw [if_neg (fun h => h g)] at k
  have z2 := z.ext (e1.trans e2)
  refine chain_spec z2 (fun g2 h3 e3 => ⟨fun _ => ?_, fun g3 => by simp at g3⟩) fun _ r hr h3 e3 => ⟨fun g3 => by simp at g3, fun _ => ?_⟩
  · have : getK Rec.c Z c = none := by
      rcases g2 with g2 | g2
      · exact absurd g g2
      · exact g2
    rw [z.getS, this] at k
    exact k h3 ((e1.trans e2).trans e3)
  · obtain ⟨h5, h6⟩ := getK_some hr
    rw [z.getS, hr] at k
    refine C.Newest_spec ((z2.ch r h5).ext e3) (by have := z.vlen h5; omega) fun h4 e4 => ?_
    refine new_of fun m5 h5' hm5 b5 e5 s5 => ?_
    have b5' : Blk h5' m5 zA.cells.toArray tn_api_Agg := b5
    refine C.st_agg b5' fun h6' b6 o6 s6 => ?_
    have ee : Ext h h6' := ((((e1.trans e2).trans e3).trans e4).trans e5).step o6 fun x hx hb => by
      have := (((e1.trans e2).trans e3).trans e4).size
      omega
    have k := k h6' ee
    simp only [Option.map_some, needV] at k
    refine ⟨fun g3 => ?_, fun g3 => ?_⟩
    · rw [if_pos (of_decide_eq_true g3)] at k; exact k
    · rw [if_neg (of_decide_eq_false g3)] at k
      rw [show alive r.vs = (C.newestM r.vs).2.2 from rfl] at k
      generalize (C.newestM r.vs).2.2 = A at k ⊢
      generalize (C.newestM r.vs).2.1 = E at k ⊢
      unfold F.xba.j1 F.xba.j2
      by_cases hE : E = e
      · subst hE; cases A <;> simp at k ⊢ <;> exact k
      · cases A <;> simp [hE] at k ⊢ <;> exact k
theorem cells_l {h : H} {n o : Nat} {xs ys : List Value} (c : Cells h ⟨n, o, none⟩ (xs ++ ys)) : Cells h ⟨n, o, none⟩ xs := fun i v hv => c i v (by rw [List.getElem?_append_left (List.getElem?_eq_some_iff.1 hv).1]; exact hv)
theorem cells_r {h : H} {n o : Nat} {xs ys : List Value} (c : Cells h ⟨n, o, none⟩ (xs ++ ys)) : Cells h ⟨n, o + xs.length, none⟩ ys := fun i v hv => by
  have := c (xs.length + i) v (by rw [List.getElem?_append_right (by omega), Nat.add_sub_cancel_left]; exact hv)
  rw [add_lit] at this ⊢
  rwa [Nat.add_assoc]
theorem pw_two {α : Type} {P : α -> α -> Prop} (sym : ∀ x y, P x y -> P y x) : ∀ {Z : List α}, Z.Pairwise P -> ∀ {x y : α}, x ∈ Z -> y ∈ Z -> x ≠ y -> P x y
  | [], _, _, _, hx, _, _ => by cases hx
  | z :: r, h, x, y, hx, hy, hne => by
    have h' := List.pairwise_cons.1 h
    rcases List.mem_cons.1 hx with e | e <;> rcases List.mem_cons.1 hy with e2 | e2
    · exact absurd (e.trans e2.symm) hne
    · rw [e]; exact h'.1 y e2
    · rw [e2]; exact sym _ _ (h'.1 x e)
    · exact pw_two sym h'.2 e e2 hne
theorem nodup_lenG {α : Type} [DecidableEq α] : ∀ {E L : List α}, E.Nodup -> (∀ e ∈ E, e ∈ L) -> E.length <= L.length
  | [], L, _, _ => Nat.zero_le _
  | e :: E, L, h, hs => by
    rw [List.nodup_cons] at h
    have he := hs e (by simp)
    have := nodup_lenG (E := E) (L := L.erase e) h.2 fun x hx => (List.mem_erase_of_ne (show x ≠ e from fun hxe => h.1 (by rw [← hxe]; exact hx))).2 (hs x (by simp [hx]))
    rw [List.length_erase_of_mem he] at this
    have hpos : 0 < L.length := List.length_pos_of_mem he
    simp only [List.length_cons]; omega
theorem ft_ty {h : H} {tn : Nat} {rs es : Sl} {T : Tb (Option Addr)} (th : P.TH h tn rs es T) {b : Nat} (hb : FT tn rs es b) : ∃ e, WB h b e ∧ (e = tn_table_Table_chain_Chain_api_Agg ∨ e = tn_table_place_chain_Chain_api_Agg) := by
  rcases hb with hb | hb | hb
  · subst hb; exact ⟨_, ⟨_, th.tb⟩, .inl rfl⟩
  · exact ⟨_, th.row.typ hb, .inr rfl⟩
  · exact ⟨_, th.el.typ hb, .inr rfl⟩
section
variable {W : List Ver -> Prop} {h h' : H} {n tn : Nat} {rs es : Sl} {T : Tb (Option Addr)} {Z : List Rec} {slots : Nat} {R : Nat -> Prop} {u t : Int}
theorem SZG.n_ft (z : SZG W h n tn rs es T Z slots R u t) {b : Nat} (hb : FT tn rs es b) : b ≠ n := by
  obtain ⟨e, h1, h2⟩ := ft_ty z.th hb
  exact h1.ne ⟨_, z.sb⟩ (by rcases h2 with rfl | rfl <;> decide)
theorem SZG.ch_ft (z : SZG W h n tn rs es T Z slots R u t) {r : Rec} (hr : r ∈ Z) {b : Nat} (hb : FT tn rs es b) : b ≠ r.p ∧ r.B ≠ some b := by
  obtain ⟨e, h1, h2⟩ := ft_ty z.th hb
  have h3 := ch_typ (z.ch r hr)
  exact ⟨h1.ne h3.1 (by rcases h2 with rfl | rfl <;> decide), fun hB => h1.ne (h3.2 b hB) (by rcases h2 with rfl | rfl <;> decide) rfl⟩
theorem SZG.n_ch (z : SZG W h n tn rs es T Z slots R u t) {r : Rec} (hr : r ∈ Z) : r.p ≠ n ∧ r.B ≠ some n := by
  have h3 := ch_typ (z.ch r hr)
  exact ⟨h3.1.ne ⟨_, z.sb⟩ (by decide), fun hB => (h3.2 n hB).ne ⟨_, z.sb⟩ (by decide) rfl⟩
theorem SZG.p_B (z : SZG W h n tn rs es T Z slots R u t) {r r' : Rec} (hr : r ∈ Z) (hr' : r' ∈ Z) : r'.B ≠ some r.p := fun hB =>
  ((ch_typ (z.ch r' hr')).2 _ hB).ne (ch_typ (z.ch r hr)).1 (by decide) rfl
theorem SZG.f_lt (z : SZG W h n tn rs es T Z slots R u t) : n < h.size ∧ (∀ b, FT tn rs es b -> b < h.size) ∧ ∀ r ∈ Z, r.p < h.size ∧ ∀ b, r.B = some b -> b < h.size :=
  ⟨block_lt z.sb, z.th.lt, fun r hr => ⟨(z.ch r hr).lt, (z.ch r hr).ltB⟩⟩
theorem SZG.stN (z : SZG W h n tn rs es T Z slots R u t) {u' t' : Int} (o : Only (· = n) h h') (b : Blk h' n #[.int .i64 u', .int .i64 t', .int .i64 (slots : Int), .pointer (some ⟨tn, 0, none⟩)] tn_shard_Shard) : SZG W h' n tn rs es T Z slots R u' t' ∧ SOnly R h h' := by
  refine ⟨{ z with sb := b, th := z.th.only o fun b hb => z.n_ft hb, ch := fun r hr => (z.ch r hr).only o (z.n_ch hr).1 fun b hb e => (z.n_ch hr).2 (by rw [hb, e]) }, o.mono fun b _ e => ?_⟩
  subst e
  exact ⟨z.rn, _, .inl rfl, _, z.sb⟩
theorem SZG.st0 (z : SZG W h n tn rs es T Z slots R u t) {x : Int} {K : H -> Prop} (k : ∀ h', SZG W h' n tn rs es T Z slots R x t -> SOnly R h h' -> K h') : stH h ⟨n, 0, none⟩ [.int .i64 x] K :=
  stH_of z.sb (by simp) fun h' q1 q2 q3 => by
    have := z.stN (u' := x) (t' := t) q2 q1
    exact k h' this.1 this.2
theorem SZG.st1 (z : SZG W h n tn rs es T Z slots R u t) {x : Int} {K : H -> Prop} (k : ∀ h', SZG W h' n tn rs es T Z slots R u x -> SOnly R h h' -> K h') : stH h ⟨n, 1, none⟩ [.int .i64 x] K :=
  stH_of z.sb (by simp) fun h' q1 q2 q3 => by
    have := z.stN (u' := u) (t' := x) q2 q1
    exact k h' this.1 this.2
theorem mem_setZ (z : SZG W h n tn rs es T Z slots R u t) {x y : Rec} : y ∈ setK Rec.c Z x ↔ y = x ∨ (y ∈ Z ∧ y.c ≠ x.c) := mem_set z.srt
theorem SZG.lay (z : SZG W h n tn rs es T Z slots R u t) {r : Rec} (hr : r ∈ Z) {vs : List Ver} {B' : Option Nat} (c : C.Ch h' r.p vs B') (o : Only (C.FP r.p r.B) h h') (kin : C.Kin h.size r.B B') (ok : W vs)
    (hus : unitsS (toS (setK Rec.c Z ⟨r.c, vs, r.p, B'⟩)) <= slots) (hR : ∀ b, h.size <= b -> R b) : SZG W h' n tn rs es T (setK Rec.c Z ⟨r.c, vs, r.p, B'⟩) slots R u t ∧ SOnly R h h' := by
  obtain ⟨l1, l2, l3⟩ := z.f_lt
  have hty := ch_typ (z.ch r hr)
  have hne : ∀ {y : Rec}, y ∈ Z -> y.c ≠ r.c -> y.p ≠ r.p ∧ (∀ x, r.B = some x -> y.B ≠ some x) := fun {y} hy hc => by
    have hyr : y ≠ r := fun e => hc (by rw [e])
    exact ⟨pw_two (fun _ _ h => h.symm) z.pd hy hr hyr, fun x hx hyx => pw_two (P := fun a b : Rec => ∀ x, a.B = some x -> b.B ≠ some x) (fun a b h x h1 h2 => h x h2 h1) z.bd hy hr hyr x hyx hx⟩
  have keepCh : ∀ y ∈ Z, y.c ≠ r.c -> C.Ch h' y.p y.vs y.B := fun y hy hc => by
    obtain ⟨h1, h2⟩ := hne hy hc
    refine (z.ch y hy).only o (fun e => ?_) fun b hb e => ?_
    · rcases e with e | e
      · exact h1 e
      · exact z.p_B hy hr e
    · rcases e with e | e
      · subst e; exact z.p_B hr hy hb
      · exact h2 b e hb
  have hB : ∀ x, B' = some x -> r.B = some x ∨ h.size <= x := fun x hx => by
    rcases kin with k | k | ⟨b, k, k2⟩
    · exact .inl (by rw [← k]; exact hx)
    · rw [k] at hx; cases hx
    · rw [k] at hx; cases hx; exact .inr k2
  refine ⟨{ z with sb := ?_, th := ?_, ch := fun y hy => ?_, get := fun y hy => ?_, all := fun k v hk => ?_, srt := sort_set z.srt, pd := pw_set z.srt z.pd fun y hy hc => ?_, bd := pw_set z.srt z.bd fun y hy hc => ?_, wf := fun y hy => ?_, us := hus, rp := fun y hy => ?_ }, ?_⟩
  · refine o.block z.sb fun e => ?_
    rcases e with e | e
    · exact (z.n_ch hr).1 e.symm
    · exact (z.n_ch hr).2 e
  · refine z.th.only o fun b hb e => ?_
    have := z.ch_ft hr hb
    rcases e with e | e
    · exact this.1 e
    · exact this.2 e
  · rcases (mem_setZ z).1 hy with e | ⟨e, e2⟩
    · subst e; exact c
    · exact keepCh y e e2
  · rcases (mem_setZ z).1 hy with e | ⟨e, e2⟩
    · subst e; exact z.get r hr
    · exact z.get y e
  · obtain ⟨y, hy, e⟩ := z.all k v hk
    by_cases hc : y.c = r.c
    · exact ⟨_, (mem_setZ z).2 (.inl rfl), by rw [e, hc]⟩
    · exact ⟨y, (mem_setZ z).2 (.inr ⟨hy, hc⟩), e⟩
  · exact ⟨fun e => (hne hy hc).1 e.symm, fun e => (hne hy hc).1 e⟩
  · refine ⟨fun x hx hy2 => ?_, fun x hx hy2 => ?_⟩
    · rcases hB x hx with e | e
      · exact (hne hy hc).2 x e hy2
      · have := (l3 y hy).2 x hy2; omega
    · rcases hB x hy2 with e | e
      · exact (hne hy hc).2 x e hx
      · have := (l3 y hy).2 x hx; omega
  · rcases (mem_setZ z).1 hy with e | ⟨e, e2⟩
    · subst e; exact ⟨(z.wf r hr).1, ok⟩
    · exact z.wf y e
  · rcases (mem_setZ z).1 hy with e | ⟨e, e2⟩
    · subst e
      refine ⟨(z.rp r hr).1, fun x hx => ?_⟩
      rcases hB x hx with e | e
      · exact (z.rp r hr).2 x e
      · exact hR x e
    · exact z.rp y e
  · refine o.mono fun b _ e => ?_
    rcases e with e | e
    · subst e; exact ⟨(z.rp r hr).1, _, .inr (.inr (.inr (.inl rfl))), hty.1⟩
    · exact ⟨(z.rp r hr).2 b e, _, .inr (.inr (.inr (.inr rfl))), hty.2 b e⟩
theorem SZG.count (z : SZG W h n tn rs es T Z slots R u t) : T.count <= Z.length := by
  have ku := P.KU_of z.ok
  have hl := P.tk_len z.ok
  have hn : ((P.tkL (T.row ++ T.elder)).map fun p => kL p.1).Nodup := by
    have : ((P.tkL (T.row ++ T.elder)).map fun p => kL p.1) = ((P.tkL (T.row ++ T.elder)).map (·.1)).map kL := by rw [List.map_map]; rfl
    rw [this]
    exact List.Pairwise.map _ (fun a b h e => h (kL_inj e)) ku
  have := nodup_lenG hn (L := Z.map fun r => keyL r.c) fun e he => by
    obtain ⟨⟨k, v⟩, hp, rfl⟩ := List.mem_map.1 he
    obtain ⟨w, hw, _⟩ := P.tk_val z.ok hp
    obtain ⟨r, hr, e⟩ := z.all k w hw
    exact List.mem_map.2 ⟨r, hr, e.symm⟩
  rw [List.length_map, List.length_map, hl] at this
  exact this
theorem SZG.add {h1 h2 : H} {T' : Tb (Option Addr)} {rs' es' : Sl} {c : Cel} {p : Nat} {vs : List Ver} {B' : Option Nat} (z : SZG W h n tn rs es T Z slots R u t) (hc : okC c = 0) (hg : getK Rec.c Z c = none) (e1 : Ext h h1) (hp : h.size <= p) (hp1 : p < h1.size)
    (th : P.TH h2 tn rs' es' T') (ok : TOk T') (stp : Stp h1 tn rs es h2 rs' es') (hget : ∀ k, getM T' k = if kL k = kL (keyB c) then some (some ⟨p, 0, none⟩) else getM T k) (hrl : T'.row.length <= 4200000)
    (ch : C.Ch h' p vs B') (o : Only (C.FP p none) h2 h') (kin : C.Kin h2.size none B') (vok : W vs) (hus : unitsS (toS (setK Rec.c Z ⟨c, vs, p, B'⟩)) <= slots) (hR : ∀ b, h.size <= b -> R b) :
    SZG W h' n tn rs' es' T' (setK Rec.c Z ⟨c, vs, p, B'⟩) slots R u t ∧ SOnly R h h' := by
  obtain ⟨l1, l2, l3⟩ := z.f_lt
  have z1 := z.ext e1
  have s1 := e1.size
  have s2 := stp.only.size
  have hcne : ∀ y ∈ Z, y.c ≠ c := getK_none hg
  have oB : ∀ b, b < h.size -> ¬ C.FP p none b := fun b hb e => by
    rcases e with e | e
    · omega
    · cases e
  have hB : ∀ x, B' = some x -> h.size <= x := fun x hx => by
    rcases kin with k | k | ⟨b, k, k2⟩
    · rw [k] at hx; cases hx
    · rw [k] at hx; cases hx
    · rw [k] at hx; cases hx; omega
  have keepCh : ∀ y ∈ Z, C.Ch h' y.p y.vs y.B := fun y hy => by
    have q := ((z1.ch y hy).only stp.only (fun e => (z1.ch_ft hy e).1 rfl) fun b hb e => (z1.ch_ft hy e).2 hb)
    exact q.only o (oB _ (l3 y hy).1) fun b hb => oB _ ((l3 y hy).2 b hb)
  have ft' : ∀ b, FT tn rs' es' b -> b ≠ p ∧ R b := fun b hb => by
    rcases stp.new b hb with e | e
    · have := l2 b e
      refine ⟨by omega, ?_⟩
      rcases e with e | e | e
      · subst e; exact z.rt
      · exact z.rr b e
      · exact z.re b e
    · exact ⟨by omega, hR b (by omega)⟩
  refine ⟨{ sb := ?_, th := th.only o fun b hb e => ?_, ok := ok, ch := fun y hy => ?_, get := fun y hy => ?_, all := fun k v hk => ?_, srt := sort_set z.srt, pd := pw_set z.srt z.pd fun y hy hc => ?_, bd := pw_set z.srt z.bd fun y hy hc => ?_, wf := fun y hy => ?_, us := hus, sl := z.sl, rl := hrl, rn := z.rn, rt := z.rt, rr := fun b hb => (ft' b (.inr (.inl hb))).2, re := fun b hb => (ft' b (.inr (.inr hb))).2, rp := fun y hy => ?_ }, ?_⟩
  · exact o.block (stp.only.block z1.sb fun e => z1.n_ft e rfl) (oB n l1)
  · rcases e with e | e
    · exact (ft' b hb).1 e
    · cases e
  · rcases (mem_setZ z).1 hy with e | ⟨e, e2⟩
    · subst e; exact ch
    · exact keepCh y e
  · rw [hget]
    rcases (mem_setZ z).1 hy with e | ⟨e, e2⟩
    · subst e; rw [if_pos rfl]
    · rw [if_neg]
      · exact z.get y e
      · intro he
        rw [kL_keyB, kL_keyB] at he
        exact e2 (key_inj (z.wf y e).1 hc he)
  · rw [hget] at hk
    split at hk
    · rename_i he
      exact ⟨_, (mem_setZ z).2 (.inl rfl), by rw [he, kL_keyB]⟩
    · obtain ⟨y, hy, e⟩ := z.all k v hk
      exact ⟨y, (mem_setZ z).2 (.inr ⟨hy, hcne y hy⟩), e⟩
  · have := (l3 y hy).1
    exact ⟨by simp only; omega, by simp only; omega⟩
  · refine ⟨fun x hx hy2 => ?_, fun x hx hy2 => ?_⟩
    · have := hB x hx; have := (l3 y hy).2 x hy2; omega
    · have := hB x hy2; have := (l3 y hy).2 x hx; omega
  · rcases (mem_setZ z).1 hy with e | ⟨e, e2⟩
    · subst e; exact ⟨hc, vok⟩
    · exact z.wf y e
  · rcases (mem_setZ z).1 hy with e | ⟨e, e2⟩
    · subst e; exact ⟨hR _ hp, fun x hx => hR x (hB x hx)⟩
    · exact z.rp y e
  · have a1 : SOnly R h h1 := SOnly.of e1
    have a2 : SOnly R h1 h2 := stp.only.mono fun b _ e => by
      obtain ⟨ty, q1, q2⟩ := ft_ty z1.th e
      refine ⟨?_, ty, ?_, q1⟩
      · rcases e with e | e | e
        · subst e; exact z.rt
        · exact z.rr b e
        · exact z.re b e
      · rcases q2 with rfl | rfl
        · exact .inr (.inl rfl)
        · exact .inr (.inr (.inl rfl))
    exact Only.trans (SOnly.trans a1 a2) o fun m hm e => absurd e (oB m hm)
end
theorem lastE_newest {vs : List Ver} : C.lastE vs = (C.newestM vs).2.1 := by
  unfold C.lastE C.newestM
  cases vs.getLast? <;> rfl
theorem lay_last (vs : List Ver) (x : Ver) : (C.layM vs x).getLast? = some x := by
  unfold C.layM
  split <;> simp
theorem lay_newest (vs : List Ver) (x : Ver) : C.newestM (C.layM vs x) = (x.value, x.epoch, !x.dead) := by
  unfold C.newestM; rw [lay_last]
theorem lay_len (vs : List Ver) (x : Ver) : ((C.layM vs x).length : Int) = vs.length + C.layN vs x := by
  unfold C.layM C.layN
  split
  · rename_i h
    have := List.length_pos_iff.2 h.1
    simp; omega
  · simp
theorem layN_range (vs : List Ver) (x : Ver) : C.layN vs x = 0 ∨ C.layN vs x = 1 := by
  unfold C.layN; split <;> simp
theorem lay_units (vs : List Ver) (x : Ver) : ((unitsV (C.layM vs x) : Nat) : Int) = vs.length + C.layN vs x + (if x.dead then 0 else 1) := by
  unfold unitsV alive
  rw [lay_newest]
  have := lay_len vs x
  cases x.dead <;> simp <;> omega
theorem lay_alive (vs : List Ver) (x : Ver) : aliveN (C.layM vs x) = if x.dead then 0 else 1 := by
  unfold aliveN alive
  rw [lay_newest]
  cases x.dead <;> simp
theorem units_eq (vs : List Ver) : unitsV vs = vs.length + aliveN vs := rfl
theorem last_le {vs : List Ver} (hr : C.Rise vs) : ∀ v ∈ vs, v.epoch <= C.lastE vs := fun v hv => by
  unfold C.lastE
  have hn : vs ≠ [] := fun e => by rw [e] at hv; cases hv
  rw [List.getLast?_eq_some_getLast hn]
  obtain ⟨i, hi⟩ := List.mem_iff_getElem?.1 hv
  have hl := C.last_get hn
  have h1 := (List.getElem?_eq_some_iff.1 hi).1
  by_cases e : i = vs.length - 1
  · rw [e, hl] at hi; cases hi; exact Int.le_refl _
  · have := hr.lt (show i < vs.length - 1 by omega) hi hl
    simp only; omega
theorem lastE_get {vs : List Ver} (hn : vs ≠ []) : C.lastE vs = (vs.getLast hn).epoch := by
  unfold C.lastE; rw [List.getLast?_eq_some_getLast hn]
theorem lay_ok {vs : List Ver} {x : Ver} (h : vs = [] ∨ VOk vs) (he : C.lastE vs <= x.epoch ∨ vs = []) (hd : x.dead = true -> x.value = zA) (h1 : 1 <= x.epoch) (h2 : x.epoch <= 1099511627776) : VOk (C.layM vs x) := by
  have hr : C.Rise vs := by
    rcases h with h | h
    · subst h; exact List.Pairwise.nil
    · exact h.rise
  have hdd : ∀ v ∈ vs, (v.dead = true -> v.value = zA) ∧ 1 <= v.epoch ∧ v.epoch <= 1099511627776 := fun v hv => by
    rcases h with h | h
    · subst h; cases hv
    · exact ⟨h.dead v hv, h.ep v hv⟩
  have hlast := last_le hr
  have hmem : ∀ v ∈ C.layM vs x, v = x ∨ v ∈ vs := fun v hv => by
    unfold C.layM at hv
    split at hv
    · rcases List.mem_append.1 hv with e | e
      · exact .inr ((List.dropLast_sublist vs).subset e)
      · exact .inl (List.mem_singleton.1 e)
    · rcases List.mem_append.1 hv with e | e
      · exact .inr e
      · exact .inl (List.mem_singleton.1 e)
  refine ⟨fun e => ?_, ?_, fun v hv => ?_, fun v hv => ?_⟩
  · have := lay_last vs x
    rw [e] at this; cases this
  · unfold C.layM
    split
    · rename_i g
      refine List.pairwise_append.2 ⟨List.Pairwise.sublist (List.dropLast_sublist vs) hr, List.pairwise_singleton _ _, fun a ha b hb => ?_⟩
      obtain rfl := List.mem_singleton.1 hb
      have hd2 : vs = vs.dropLast ++ [vs.getLast g.1] := (List.dropLast_concat_getLast g.1).symm
      have hr2 := hr
      unfold C.Rise at hr2
      rw [hd2] at hr2
      have := (List.pairwise_append.1 hr2).2.2 a ha (vs.getLast g.1) (by simp)
      have hl := lastE_get g.1
      have := g.2
      omega
    · rename_i g
      refine List.pairwise_append.2 ⟨hr, List.pairwise_singleton _ _, fun a ha b hb => ?_⟩
      obtain rfl := List.mem_singleton.1 hb
      have hn : vs ≠ [] := fun e => by rw [e] at ha; cases ha
      have h3 := hlast a ha
      have h4 : C.lastE vs ≠ b.epoch := fun e => g ⟨hn, e⟩
      rcases he with he | he
      · omega
      · exact absurd he hn
  · rcases hmem v hv with e | e
    · subst e; exact hd
    · exact (hdd v e).1
  · rcases hmem v hv with e | e
    · subst e; exact ⟨h1, h2⟩
    · exact (hdd v e).2
theorem set_units {S : SL} (hs : SortS S) (c : Cel) (vs : List Ver) : unitsS (setS S c vs) + unitsV ((getS S c).getD []) = unitsS S + unitsV vs := by
  have := sum_set (key := fun x : Cel × List Ver => x.1) (x := (c, vs)) (fun x => unitsV x.2) hs
  have e : ((getK (fun x : Cel × List Ver => x.1) S c).map fun x => unitsV x.2).getD 0 = unitsV ((getS S c).getD []) := by
    unfold getS
    cases getK (fun x : Cel × List Ver => x.1) S c <;> rfl
  rw [← e]; exact this
theorem set_there {S : SL} (hs : SortS S) (c : Cel) (vs : List Ver) : thereS (setS S c vs) + aliveN ((getS S c).getD []) = thereS S + aliveN vs := by
  have := sum_set (key := fun x : Cel × List Ver => x.1) (x := (c, vs)) (fun x => aliveN x.2) hs
  have e : ((getK (fun x : Cel × List Ver => x.1) S c).map fun x => aliveN x.2).getD 0 = aliveN ((getS S c).getD []) := by
    unfold getS
    cases getK (fun x : Cel × List Ver => x.1) S c <;> rfl
  rw [← e]; exact this
theorem toS_set (Z : List Rec) (r : Rec) : toS (setK Rec.c Z r) = setS (toS Z) r.c r.vs :=
  map_set (key := Rec.c) (key' := fun x : Cel × List Ver => x.1) (fun r : Rec => (r.c, r.vs)) (fun _ => rfl) Z
theorem need_lay (o : Option (List Ver)) (e : Int) (x : Ver) (hx : x.epoch = e) (hd : x.dead = false) (hn : ¬ (C.newestM (o.getD [])).2.1 > e) (ho : ∀ vs, o = some vs -> vs ≠ []) : needV o e = C.layN (o.getD []) x + 1 - aliveN (o.getD []) := by
  cases o with
  | none => rfl
  | some vs =>
    have hne := ho vs rfl
    simp only [Option.getD_some] at hn ⊢
    unfold needV
    simp only
    rw [if_neg hn]
    by_cases h1 : (C.newestM vs).2.1 = e
    · have hl : C.layN vs x = 0 := by unfold C.layN; rw [if_pos ⟨hne, by rw [lastE_newest, hx]; exact h1⟩]
      rw [hl]
      unfold aliveN
      by_cases h2 : alive vs = true
      · rw [if_pos ⟨h1, h2⟩, if_pos h2]; rfl
      · rw [if_neg (fun h => h2 h.2), if_pos (.inl h1), if_neg h2]; rfl
    · have hl : C.layN vs x = 1 := by unfold C.layN; rw [if_neg (fun h => h1 (by rw [← lastE_newest, ← hx]; exact h.2))]
      rw [hl, if_neg (fun h => h1 h.1)]
      unfold aliveN
      by_cases h2 : alive vs = true
      · rw [if_pos (.inr h2), if_pos h2]; rfl
      · rw [if_neg (fun h => h.elim h1 h2), if_neg h2]; rfl
def RightIs (a : S_api_Agg) (b : Bool) : Prop := ∀ (h : H) (Q : Bool -> H -> Prop), (∀ h', Ext h h' -> Q b h') -> F.xbl a h Q
def putE (S : SL) (slots : Nat) (e : Int) (c : Cel) (a : S_api_Agg) (rt : Bool) : Int :=
  if okC c ≠ 0 then okC c else if e < 1 ∨ e > 1099511627776 ∨ a.Count = 0 ∨ rt = false then 1 else if (C.newestM ((getS S c).getD [])).2.1 > e then 32 else if (unitsS S : Int) + needS S e c > slots then 31 else 0
def putS (S : SL) (e : Int) (c : Cel) (a : S_api_Agg) : SL := setS S c (C.layM ((getS S c).getD []) ⟨e, a, false⟩)
def killE (S : SL) (e : Int) (c : Cel) : Int :=
  if okC c ≠ 0 then okC c else if e < 1 ∨ e > 1099511627776 then 1 else match getS S c with
  | none => 44
  | some vs => if (C.newestM vs).2.1 > e then 32 else if alive vs = false then 44 else 0
def killS (S : SL) (e : Int) (c : Cel) : SL := setS S c (C.layM ((getS S c).getD []) ⟨e, zA, true⟩)
theorem getS_ne {S : SL} (h : SOk S) {c : Cel} : ∀ vs, getS S c = some vs -> VOk vs := fun vs hg => by
  unfold getS at hg
  cases hx : getK (fun x : Cel × List Ver => x.1) S c with
  | none => rw [hx] at hg; cases hg
  | some x =>
    rw [hx] at hg; cases hg
    exact (h.ok x (getK_some hx).1).2
theorem put_units {S : SL} (h : SOk S) {e : Int} {c : Cel} {a : S_api_Agg} (hc : okC c = 0) (hn : ¬ (C.newestM ((getS S c).getD [])).2.1 > e) :
    (unitsS (putS S e c a) : Int) = unitsS S + needS S e c ∧ (thereS (putS S e c a) : Int) = thereS S + (1 - aliveN ((getS S c).getD [])) ∧ needS S e c = C.layN ((getS S c).getD []) ⟨e, a, false⟩ + (1 - aliveN ((getS S c).getD [])) := by
  have h1 := set_units h.sort c (C.layM ((getS S c).getD []) ⟨e, a, false⟩)
  have h2 := set_there h.sort c (C.layM ((getS S c).getD []) ⟨e, a, false⟩)
  have h3 := lay_units ((getS S c).getD []) ⟨e, a, false⟩
  have h4 := lay_alive ((getS S c).getD []) ⟨e, a, false⟩
  have h5 := units_eq ((getS S c).getD [])
  have h6 := need_lay (getS S c) e ⟨e, a, false⟩ rfl rfl hn fun vs hv => (getS_ne h vs hv).ne
  have h7 : needS S e c = needV (getS S c) e := by unfold needS; rw [if_neg (fun h => h hc)]
  simp only [Bool.false_eq_true, if_false] at h3 h4
  unfold putS
  rw [h7]
  refine ⟨by omega, by omega, by omega⟩
theorem mayM_ok {vs : List Ver} {e : Int} (h1 : 1 <= e) (h2 : e <= 1099511627776) : C.mayM vs e = if vs ≠ [] ∧ e < (C.newestM vs).2.1 then 32 else 0 := by
  unfold C.mayM
  rw [if_neg (by omega), lastE_newest]
section
variable {h : H} {n : Nat} {S : SL} {slots : Nat} {R : Nat -> Prop}
theorem Put_spec {e : Int} {x : S_api_Row} {rt : Bool} {Q : Int -> H -> Prop} (s : SH h n S slots R) (hrt : RightIs x.Agg rt) (hR : ∀ b, h.size <= b -> R b)
    (k0 : putE S slots e x.Cell x.Agg rt ≠ 0 -> ∀ h', Ext h h' -> Q (putE S slots e x.Cell x.Agg rt) h')
    (k1 : putE S slots e x.Cell x.Agg rt = 0 -> ∀ h', SH h' n (putS S e x.Cell x.Agg) slots R -> SOnly R h h' -> Q 0 h') : F.xae (some ⟨n, 0, none⟩) e x h Q := by
  have sok := s.ok
  obtain ⟨tn, rs, es, T, Z, hZ, z⟩ := s
  obtain ⟨c, a⟩ := x
  simp only at hrt k0 k1
  unfold F.xae
  refine new_of fun m h1 hm b1 e1 s1 => ?_
  have rc : Cells h1 ⟨m, 0, none⟩ (c.cells ++ a.cells) := Blk.cells b1
  simp only [add_lit, Nat.zero_add, Nat.add_zero]
  have ra : ∀ {hh : H}, Ext h1 hh -> Cells hh ⟨m, 3, none⟩ a.cells := fun ee => (cells_r rc : Cells h1 ⟨m, 0 + 3, none⟩ a.cells).ext ee
  have rcc : ∀ {hh : H}, Ext h1 hh -> Cells hh ⟨m, 0, none⟩ c.cells := fun ee => (cells_l rc).ext ee
  refine ⟨c, rcc (.refl _), ?_⟩
  unfold putE at k0 k1
  refine key_spec (fun g h2 e2 => ⟨fun _ => ?_, fun g2 => absurd (by simpa using g2) g⟩) fun g h2 e2 => ⟨fun g2 => by simp at g2, fun _ => ?_⟩
  · rw [if_pos g] at k0; exact k0 g h2 (e1.trans e2)
  rw [if_neg (fun h => h g)] at k0 k1
  have e02 := e1.trans e2
  have a0 : ∀ {hh : H}, Ext h1 hh -> cellH hh ⟨m, 3, none⟩ = some (.int .i64 a.Count) := fun ee => ra ee 0 _ rfl
  -- a bad argument
  have bad : ∀ {hh : H}, Ext h hh -> (e < 1 ∨ e > 1099511627776 ∨ a.Count = 0 ∨ rt = false) -> F.xae.j4 Q (some ⟨n, 0, none⟩) e ⟨m, 0, none⟩ (keyB c) true hh := fun ee hb => by
    unfold F.xae.j4
    refine ⟨fun _ => ?_, fun h => by cases h⟩
    rw [if_pos hb] at k0
    exact k0 (by decide) _ ee
  -- the last step: a chain that is there is written
  have j1 : ∀ h3, Ext h2 h3 -> 1 <= e -> e <= 1099511627776 -> a.Count ≠ 0 -> rt = true -> F.xae.j1 Q (some ⟨n, 0, none⟩) e ⟨m, 0, none⟩ (keyB c) h3 := by
    intro h3 e3 he1 he2 hac hrt1
    rw [if_neg (by rintro (h | h | h | h)
                   · omega
                   · omega
                   · exact hac h
                   · rw [hrt1] at h; cases h)] at k0 k1
    have e03 := e02.trans e3
    have z3 := z.ext e03
    unfold F.xae.j1
    simp only [nn_some, add_lit, Nat.zero_add, Nat.add_zero]
    rw [ldP_iff z3.cs3]
    refine P.Get_spec z3.th z3.ok (key_small g) fun h4 e4 => ?_
    have e04 := e03.trans e4
    have e14 : Ext h1 h4 := (e2.trans e3).trans e4
    have z4 := z3.ext e4
    have hlk := z3.look g
    rw [hlk]
    -- room is asked for
    have j2 : ∀ (h5 : H) (l : Option Addr) (is th : Bool), Ext h4 h5 -> ¬ (C.newestM ((getS S c).getD [])).2.1 > e -> ((unitsS S : Int) + needS S e c <= slots -> ∀ h6, Ext h5 h6 -> ((!is) = true -> F.xcq h6 fun r60 h59 => ldP h59 ⟨n, 3, none⟩ fun y63 => F.xbj y63 (keyB c) r60 h59 fun h65 => F.xae.j3 Q (some ⟨n, 0, none⟩) e ⟨m, 0, none⟩ r60 th h65) ∧ ((!is) = false -> F.xae.j3 Q (some ⟨n, 0, none⟩) e ⟨m, 0, none⟩ l th h6)) ->
        F.xae.j2 Q (some ⟨n, 0, none⟩) e ⟨m, 0, none⟩ (keyB c) l is th h5 := by
      intro h5 l is th e5 hnw hgo
      have z5 := z4.ext e5
      unfold F.xae.j2
      simp only [nn_some, add_lit, Nat.zero_add, Nat.add_zero]
      rw [ldI_iff z5.cs0]
      refine ⟨c, rcc (e14.trans e5), ldI_of z5.cs2 (need_spec z5 fun h6 e6 => ⟨(z5.ext e6).cs2, (z5.ext e6).cs0, ?_⟩)⟩
      rw [hZ]
      rw [if_neg hnw] at k0 k1
      have hus := z.us
      have hsl := z.sl
      rw [hZ] at hus
      have hnd : 0 <= needS S e c ∧ needS S e c <= 2 := by
        unfold needS needV
        split
        · omega
        · cases getS S c with
          | none => simp
          | some vs => simp only; split <;> (try split) <;> (try split) <;> omega
      rw [w64 (by omega) (by omega)]
      refine ⟨fun g2 => ?_, fun g2 => hgo (by have := of_decide_eq_false g2; omega) h6 e6⟩
      have g2 := of_decide_eq_true g2
      rw [if_pos g2] at k0
      exact k0 (by decide) h6 ((e04.trans e5).trans e6)
    have hgs : getS S c = (getK Rec.c Z c).map (·.vs) := by rw [← hZ]; exact z.getS c
    have hpu := fun (hn : ¬ (C.newestM ((getS S c).getD [])).2.1 > e) => put_units (a := a) sok g hn
    -- the numbers
    have nums : ∀ (h8 : H) (rs' es' : Sl) (T' : Tb (Option Addr)) (Z' : List Rec) (th : Bool), SZ h8 n tn rs' es' T' Z' slots R (unitsS S : Int) (thereS S : Int) -> toS Z' = putS S e c a -> SOnly R h h8 -> ¬ (C.newestM ((getS S c).getD [])).2.1 > e -> (unitsS S : Int) + needS S e c <= slots ->
        (aliveN ((getS S c).getD []) = if th then 1 else 0) ->
        (nn (some ⟨n, 0, none⟩) fun a36 => ldI .i64 h8 ((a36.add 0).add 0) fun y38 => nn (some ⟨n, 0, none⟩) fun a40 => stH h8 ((a40.add 0).add 0) [(.int .i64 (IntKind.wrap .i64 (y38 + C.layN ((getS S c).getD []) ⟨e, a, false⟩)))] fun h42 =>
          ((!th) = true -> nn (some ⟨n, 0, none⟩) fun a44 => ldI .i64 h42 ((a44.add 0).add 0) fun y46 => nn (some ⟨n, 0, none⟩) fun a48 => stH h42 ((a48.add 0).add 0) [(.int .i64 (IntKind.wrap .i64 (y46 + 1)))] fun h50 => nn (some ⟨n, 0, none⟩) fun a51 => ldI .i64 h50 ((a51.add 0).add 1) fun y53 => nn (some ⟨n, 0, none⟩) fun a55 => stH h50 ((a55.add 0).add 1) [(.int .i64 (IntKind.wrap .i64 (y53 + 1)))] fun h57 => Q 0 h57) ∧ ((!th) = false -> Q 0 h42)) := by
      intro h8 rs' es' T' Z' th z8 hZ' so hnw hroom hth
      obtain ⟨p1, p2, p3⟩ := hpu hnw
      have hsl := z.sl
      have htl : thereS S <= unitsS S := there_le
      have hus := z.us
      rw [hZ] at hus
      have hlr := layN_range ((getS S c).getD []) ⟨e, a, false⟩
      rw [if_neg hnw, if_neg (show ¬ (unitsS S : Int) + needS S e c > slots by omega)] at k1
      simp only [nn_some, add_lit, Nat.zero_add, Nat.add_zero]
      rw [ldI_iff z8.cs0, w64 (by omega) (by omega)]
      refine z8.st0 fun h9 z9 o9 => ?_
      have so9 := so.trans o9
      refine ⟨fun g3 => ?_, fun g3 => ?_⟩
      · have hth0 : th = false := by simpa using g3
        rw [hth0] at hth
        simp only [Bool.false_eq_true, if_false] at hth
        rw [ldI_iff z9.cs0, w64 (by omega) (by omega)]
        refine z9.st0 fun h10 z10 o10 => ?_
        rw [ldI_iff z10.cs1, w64 (by omega) (by omega)]
        refine z10.st1 fun h11 z11 o11 => ?_
        refine k1 rfl h11 ⟨tn, rs', es', T', Z', hZ', ?_⟩ ((so9.trans o10).trans o11)
        rw [hZ', p1, p2, p3, hth]
        have q1 : (unitsS S : Int) + C.layN ((getS S c).getD []) ⟨e, a, false⟩ + 1 = unitsS S + (C.layN ((getS S c).getD []) ⟨e, a, false⟩ + (1 - ((0 : Nat) : Int))) := by omega
        have q2 : (thereS S : Int) + 1 = thereS S + (1 - ((0 : Nat) : Int)) := by omega
        rw [← q1, ← q2]; exact z11
      · have hth1 : th = true := by simpa using g3
        rw [hth1] at hth
        simp only [if_true] at hth
        refine k1 rfl h9 ⟨tn, rs', es', T', Z', hZ', ?_⟩ so9
        rw [hZ', p1, p2, p3, hth]
        have q1 : (unitsS S : Int) + C.layN ((getS S c).getD []) ⟨e, a, false⟩ = unitsS S + (C.layN ((getS S c).getD []) ⟨e, a, false⟩ + (1 - ((1 : Nat) : Int))) := by omega
        have q2 : (thereS S : Int) = thereS S + (1 - ((1 : Nat) : Int)) := by omega
        rw [← q1, ← q2]; exact z9
    cases hg : getK Rec.c Z c with
    | none =>
      refine ⟨fun h => (by cases h), fun _ => ?_⟩
      have hgd : (getS S c).getD [] = [] := by rw [hgs, hg]; rfl
      have hnw : ¬ (C.newestM ((getS S c).getD [])).2.1 > e := by rw [hgd]; show ¬ (0 : Int) > e; omega
      refine j2 h4 _ _ _ (.refl _) hnw fun hroom h6 e6 => ⟨fun _ => ?_, fun h => by cases h⟩
      have z6 := z4.ext e6
      refine C.New_spec fun p h7 hp c7 e7 => ?_
      have z7 := z6.ext e7
      rw [ldP_iff z7.cs3]
      obtain ⟨T', t1, t2, t3, t4, t5, t6⟩ := put_ok (z := P.nilA) z7.ok (keyB c) (some ⟨p, 0, none⟩)
      have hcnt := z7.count
      have hzl := z7.len
      have hrl := z7.rl
      have hgn : getM T (keyB c) = none := by rw [z.look g, hg]; rfl
      rw [hgn] at t5
      simp only [Option.isSome_none, Bool.false_eq_true, if_false] at t5
      have hrl' : T'.row.length <= 4200000 := by
        rcases t6 with ⟨_, q1, q2, _⟩ | ⟨_, q2, _⟩
        · have q1 : 3 * T.row.length < 4 * (T.count + 1) := q1
          omega
        · omega
      refine P.Put_spec z7.th z7.ok (key_small g) t1 (by show _ <= 1099511627776; omega) (by show _ <= 1099511627776; omega) fun h8 rs' es' th8 stp => ?_
      unfold F.xae.j3
      simp only [add_lit, Nat.zero_add, Nat.add_zero]
      have hp6 : p < h7.size := c7.lt
      have l7 := z7.f_lt
      have c8 : C.Ch h8 p [] none := c7.only stp.only (fun hb => by
        have := z6.th.lt p hb; omega) fun b hb => by cases hb
      have e17 : Ext h1 h7 := (e14.trans e6).trans e7
      have e07 := ((e04.trans e6).trans e7)
      have rb8 : Cells h8 ⟨m, 3, none⟩ a.cells := (ra e17).only stp.only fun hb => by
        have := z.th.lt m hb; omega
      refine ⟨a, rb8, ?_⟩
      refine C.Put_spec c8 (by simp) (fun h => absurd (by rw [mayM_ok he1 he2]; simp) h) fun _ h9 B' c9 o9 kin9 => ?_
      have hsetq : toS (setK Rec.c Z ⟨c, C.layM [] ⟨e, a, false⟩, p, B'⟩) = putS S e c a := by
        rw [toS_set, hZ]; unfold putS; rw [hgd]
      have vok : VOk (C.layM [] ⟨e, a, false⟩) := lay_ok (.inl rfl) (.inr rfl) (fun h => by cases h) he1 he2
      obtain ⟨p1, p2, p3⟩ := hpu hnw
      have hz := z.add (c := c) g hg (e07) (by have := ((e04.trans e6)).size; omega) hp6 th8 t2 stp t4 hrl' c9 o9 kin9 vok (by rw [hsetq]; omega) hR
      have := nums h9 rs' es' T' _ false (by rw [← hZ]; exact hz.1) hsetq hz.2 hnw hroom (by rw [hgd]; rfl)
      rw [hgd] at this
      exact this
    | some r =>
      refine ⟨fun _ => ?_, fun h => by cases h⟩
      obtain ⟨hr, hrc⟩ := getK_some hg
      have hgd : (getS S c).getD [] = r.vs := by rw [hgs, hg]; rfl
      have hv := (z.wf r hr).2
      refine C.Newest_spec (z4.ch r hr) (by have := z.vlen hr; omega) fun h5 e5 => ⟨fun g2 => ?_, fun g2 => ?_⟩
      · have g2 := of_decide_eq_true g2
        rw [hgd, if_pos g2] at k0
        exact k0 (by decide) h5 (e04.trans e5)
      have hnw : ¬ (C.newestM ((getS S c).getD [])).2.1 > e := by rw [hgd]; exact of_decide_eq_false g2
      refine j2 h5 _ _ _ e5 hnw fun hroom h6 e6 => ⟨fun h => (by cases h), fun _ => ?_⟩
      have e06 := (e04.trans e5).trans e6
      have z6 := z.ext e06
      unfold F.xae.j3
      simp only [add_lit, Nat.zero_add, Nat.add_zero]
      refine ⟨a, ra ((e14.trans e5).trans e6), ?_⟩
      refine C.Put_spec (z6.ch r hr) (by have := z.vlen hr; omega) (fun h => absurd (by rw [mayM_ok he1 he2, if_neg (fun h2 => by rw [hgd] at hnw; omega)]) h) fun _ h9 B' c9 o9 kin9 => ?_
      have hsetq : toS (setK Rec.c Z ⟨r.c, C.layM r.vs ⟨e, a, false⟩, r.p, B'⟩) = putS S e c a := by
        rw [toS_set, hZ, hrc]; unfold putS; rw [hgd]
      have hn2 : C.lastE r.vs <= e := by rw [lastE_newest]; rw [hgd] at hnw; omega
      have vok : VOk (C.layM r.vs ⟨e, a, false⟩) := lay_ok (.inr hv) (.inl hn2) (fun h => by cases h) he1 he2
      obtain ⟨p1, p2, p3⟩ := hpu hnw
      have hz := z6.lay hr c9 o9 kin9 vok (by rw [hsetq]; omega) fun b hb => hR b (by have := e06.size; omega)
      have := nums h9 rs es T _ (alive r.vs) (by rw [← hZ]; exact hz.1) hsetq ((SOnly.of e06).trans hz.2) hnw hroom (by rw [hgd]; rfl)
      rw [hgd] at this
      exact this
  have e2r : Ext h1 h2 := e2
  refine ⟨fun g2 => bad e02 (.inl (of_decide_eq_true g2)), fun g2 => ⟨fun g3 => bad e02 (.inr (.inl (of_decide_eq_true g3))), fun g3 => ?_⟩⟩
  rw [ldI_iff (a0 e2)]
  refine ⟨fun g4 => bad e02 (.inr (.inr (.inl (by simpa using g4)))), fun g4 => ⟨a, ra e2, hrt h2 _ fun h3 e3 => ?_⟩⟩
  have g2 := of_decide_eq_false g2
  have g3 := of_decide_eq_false g3
  have g4 : a.Count ≠ 0 := by simpa using g4
  cases hrv : rt with
  | false => exact bad (e02.trans e3) (.inr (.inr (.inr hrv)))
  | true =>
    unfold F.xae.j4
    exact ⟨fun h => (by cases h), fun _ => j1 h3 e3 (by omega) (by omega) g4 hrv⟩
theorem kill_units {S : SL} (h : SOk S) {e : Int} {c : Cel} {vs : List Ver} (hg : getS S c = some vs) (ha : alive vs = true) :
    (unitsS (killS S e c) : Int) = unitsS S + (C.layN vs ⟨e, zA, true⟩ - 1) ∧ (thereS (killS S e c) : Int) = thereS S - 1 := by
  have h1 := set_units h.sort c (C.layM ((getS S c).getD []) ⟨e, zA, true⟩)
  have h2 := set_there h.sort c (C.layM ((getS S c).getD []) ⟨e, zA, true⟩)
  have h3 := lay_units ((getS S c).getD []) ⟨e, zA, true⟩
  have h4 := lay_alive ((getS S c).getD []) ⟨e, zA, true⟩
  have h5 := units_eq ((getS S c).getD [])
  have h6 : aliveN ((getS S c).getD []) = 1 := by rw [hg]; unfold aliveN; rw [Option.getD_some, if_pos ha]
  simp only [if_true] at h3 h4
  rw [show (C.layN vs ⟨e, zA, true⟩) = C.layN ((getS S c).getD []) ⟨e, zA, true⟩ from by rw [hg]; rfl]
  unfold killS
  refine ⟨by omega, by omega⟩
theorem Kill_spec {e : Int} {c : Cel} {Q : Int -> H -> Prop} (s : SH h n S slots R) (hR : ∀ b, h.size <= b -> R b)
    (k0 : killE S e c ≠ 0 -> ∀ h', Ext h h' -> Q (killE S e c) h')
    (k1 : killE S e c = 0 -> ∀ h', SH h' n (killS S e c) slots R -> SOnly R h h' -> Q 0 h') : F.xap (some ⟨n, 0, none⟩) e c h Q := by
  have sok := s.ok
  obtain ⟨tn, rs, es, T, Z, hZ, z⟩ := s
  unfold F.xap
  refine new_of fun m h1 hm b1 e1 s1 => ⟨c, Blk.cells b1, ?_⟩
  unfold killE at k0 k1
  refine key_spec (fun g h2 e2 => ⟨fun _ => ?_, fun g2 => absurd (by simpa using g2) g⟩) fun g h2 e2 => ⟨fun g2 => by simp at g2, fun _ => ?_⟩
  · rw [if_pos g] at k0; exact k0 g h2 (e1.trans e2)
  rw [if_neg (fun h => h g)] at k0 k1
  have e02 := e1.trans e2
  have bad : (e < 1 ∨ e > 1099511627776) -> F.xap.j2 Q (some ⟨n, 0, none⟩) e ⟨m, 0, none⟩ true h2 := fun hb => by
    unfold F.xap.j2
    refine ⟨fun _ => ?_, fun h => by cases h⟩
    rw [if_pos hb] at k0
    exact k0 (by decide) _ e02
  refine ⟨fun g2 => bad (.inl (of_decide_eq_true g2)), fun g2 => ?_⟩
  have g2 := of_decide_eq_false g2
  cases hb : decide (e > 1099511627776) with
  | true => exact bad (.inr (of_decide_eq_true hb))
  | false =>
    have g3 := of_decide_eq_false hb
    unfold F.xap.j2
    refine ⟨fun h => (by cases h), fun _ => ?_⟩
    rw [if_neg (by omega)] at k0 k1
    unfold F.xap.j1
    refine ⟨c, (Blk.cells b1).ext e2, ?_⟩
    have z2 := z.ext e02
    have hgs : getS S c = (getK Rec.c Z c).map (·.vs) := by rw [← hZ]; exact z.getS c
    refine chain_spec z2 (fun g4 h3 e3 => ⟨fun _ => ?_, fun h => by simp at h⟩) fun _ r hg h3 e3 => ⟨fun h => by simp at h, fun _ => ?_⟩
    · have : getK Rec.c Z c = none := by
        rcases g4 with g4 | g4
        · exact absurd g g4
        · exact g4
      rw [hgs, this] at k0
      exact k0 (fun h => by cases h) h3 (e02.trans e3)
    · obtain ⟨hr, hrc⟩ := getK_some hg
      rw [hg] at hgs
      have hgs : getS S c = some r.vs := hgs
      rw [hgs] at k0 k1
      dsimp only at k0 k1
      have e03 := e02.trans e3
      have z3 := z.ext e03
      have hv := (z.wf r hr).2
      have hml := mayM_ok (vs := r.vs) (e := e) (by omega) (by omega)
      have hmne : r.vs ≠ [] := hv.ne
      refine C.Kill_spec (z3.ch r hr) (by have := z.vlen hr; omega) (fun g4 => ⟨fun g5 => ?_, fun g5 => ?_⟩) (fun g4 g5 h4 e4 => ⟨fun _ => ?_, fun h => by simp at h⟩) fun g4 g5 h4 B' c4 o4 kin4 => ⟨fun h => by simp at h, fun _ => ?_⟩
      · rw [hml] at g4 ⊢
        have : r.vs ≠ [] ∧ e < (C.newestM r.vs).2.1 := by
          refine Classical.byContradiction fun hn => ?_
          rw [if_neg hn] at g4; exact g4 rfl
        rw [if_pos this]
        rw [if_pos (show (C.newestM r.vs).2.1 > e from this.2)] at k0
        exact k0 (by decide) h3 e03
      · exact absurd (by simpa using g5) g4
      · have hnw : ¬ (C.newestM r.vs).2.1 > e := fun hh => by rw [hml, if_pos ⟨hmne, hh⟩] at g4; cases g4
        rw [if_neg hnw, if_pos (show alive r.vs = false from g5)] at k0
        exact k0 (by decide) h4 (e03.trans e4)
      · have hnw : ¬ (C.newestM r.vs).2.1 > e := fun hh => by rw [hml, if_pos ⟨hmne, hh⟩] at g4; cases g4
        rw [if_neg hnw, if_neg (show ¬ alive r.vs = false from by rw [show alive r.vs = (C.newestM r.vs).2.2 from rfl, g5]; decide)] at k1
        obtain ⟨p1, p2⟩ := kill_units (e := e) sok hgs g5
        have hus := z.us
        have hsl := z.sl
        rw [hZ] at hus
        have hlr := layN_range r.vs ⟨e, zA, true⟩
        have htl : thereS S <= unitsS S := there_le
        have hsetq : toS (setK Rec.c Z ⟨r.c, C.layM r.vs ⟨e, zA, true⟩, r.p, B'⟩) = killS S e c := by
          rw [toS_set, hZ, hrc]; unfold killS; rw [hgs]; rfl
        have hn2 : C.lastE r.vs <= e := by rw [lastE_newest]; omega
        have vok : VOk (C.layM r.vs ⟨e, zA, true⟩) := lay_ok (.inr hv) (.inl hn2) (fun _ => rfl) (by show 1 <= e; omega) (by show e <= _; omega)
        have hz := z3.lay hr c4 o4 kin4 vok (by rw [hsetq]; omega) fun b hb => hR b (by have := e03.size; omega)
        obtain ⟨z4, so4⟩ := hz
        rw [hZ] at z4
        simp only [nn_some, add_lit, Nat.zero_add, Nat.add_zero]
        rw [ldI_iff z4.cs0, w64 (n := C.layN r.vs ⟨e, zA, true⟩ - 1) (by omega) (by omega), w64 (by omega) (by omega)]
        refine z4.st0 fun h5 z5 o5 => ?_
        rw [ldI_iff z5.cs1, w64 (by omega) (by omega)]
        refine z5.st1 fun h6 z6 o6 => ?_
        refine k1 rfl h6 ⟨tn, rs, es, T, _, hsetq, ?_⟩ ((((SOnly.of e03).trans so4).trans o5).trans o6)
        rw [hsetq, p1, p2]; exact z6
end
abbrev Rw := S_api_Row
abbrev cW (x : Rw) : List Value := x.cells
theorem cW_len (x : Rw) : (cW x).length = 7 := rfl
def keysZ (Z : List Rec) : List (ByteArray × Option Addr) := Z.map fun r => (keyB r.c, some ⟨r.p, 0, none⟩)
theorem keysZ_len (Z : List Rec) : (keysZ Z).length = Z.length := List.length_map _
theorem cB_lt : ∀ (x y : List UInt8), Lib.compareBytes x y = -1 -> x < y
  | [], [], h => by simp [Lib.compareBytes] at h
  | [], b :: y, _ => List.nil_lt_cons b y
  | a :: x, [], h => by simp [Lib.compareBytes] at h
  | a :: x, b :: y, h => by
    simp only [Lib.compareBytes] at h
    rcases u8_tri a b with g | g | g
    · exact List.cons_lt_cons_iff.2 (.inl g)
    · subst g
      simp only [u8_irr, if_false] at h
      exact List.cons_lt_cons_iff.2 (.inr ⟨rfl, cB_lt x y h⟩)
    · simp [g, u8_asym g] at h
theorem key_lt {a b : Cel} (ha : okC a = 0) (hb : okC b = 0) (h : cmpC a b = -1) : keyL a < keyL b :=
  cB_lt _ _ (by rw [key_cmp (ok_may ha) (ok_may hb) (ok_start ha) (ok_start hb)]; exact h)
section
variable {h h' : H} {n tn : Nat} {rs es : Sl} {T : Tb (Option Addr)} {Z : List Rec} {slots : Nat} {R : Nat -> Prop} {u t : Int}
theorem tk_has (ok : TOk T) {k : ByteArray} {v : Option Addr} (hg : getM T k = some v) : ∃ p ∈ P.tkL (T.row ++ T.elder), p.1 = k := by
  have go : ∀ (W : List (Pl (Option Addr))), valOf W k = some v -> ∃ p ∈ P.tkL W, p.1 = k := fun W hv => by
    obtain ⟨i, p, h1, h2, h3, h4⟩ := valOf_some hv
    exact ⟨(p.key, .pointer p.value), List.mem_map.2 ⟨p, List.mem_filter.2 ⟨List.mem_of_getElem? h1, by simp [h2]⟩, rfl⟩, kL_inj h3⟩
  unfold getM at hg
  rw [P.tkL_app]
  cases hv : valOf T.row k with
  | some w =>
    rw [hv] at hg; cases hg
    obtain ⟨p, h1, h2⟩ := go _ hv
    exact ⟨p, List.mem_append_left _ h1, h2⟩
  | none =>
    rw [hv] at hg
    obtain ⟨p, h1, h2⟩ := go _ hg
    exact ⟨p, List.mem_append_right _ h1, h2⟩
theorem all_eq (z : SZ h n tn rs es T Z slots R u t) : P.allL T = keysZ Z := by
  have hk : ∀ c : Cel, (keyB c).data.toList = keyL c := fun c => by simp [keyB]
  have hsort : (Z.map fun r => keyB r.c).Pairwise fun a b => a.data.toList < b.data.toList := by
    rw [List.pairwise_map]
    have := z.srt
    refine List.Pairwise.imp_of_mem ?_ this
    intro a b ha hb hab
    rw [hk, hk]
    exact key_lt (z.wf a ha).1 (z.wf b hb).1 hab
  have hn2 : (Z.map fun r => keyB r.c).Nodup := hsort.imp fun {a b} hab e => by subst e; exact List.lt_irrefl _ hab
  have hn1 := P.KU_of z.ok
  have hp : ((P.tkL (T.row ++ T.elder)).map (·.1)).Perm (Z.map fun r => keyB r.c) := (List.perm_ext_iff_of_nodup hn1 hn2).2 fun k => by
    constructor
    · intro hk'
      obtain ⟨⟨k2, v⟩, hm, rfl⟩ := List.mem_map.1 hk'
      obtain ⟨w, hw, _⟩ := P.tk_val z.ok hm
      obtain ⟨r, hr, e⟩ := z.all k2 w hw
      refine List.mem_map.2 ⟨r, hr, kL_inj ?_⟩
      rw [kL_keyB]; exact e.symm
    · intro hk'
      obtain ⟨r, hr, rfl⟩ := List.mem_map.1 hk'
      have hg := z.get r hr
      refine Classical.byContradiction fun hno => ?_
      have hlt := tk_has z.ok hg
      obtain ⟨p, hp1, hp2⟩ := hlt
      exact hno (List.mem_map.2 ⟨p, hp1, hp2⟩)
  unfold P.allL
  rw [sortT_perm hp, P.sortT_id hsort, List.map_map]
  refine List.map_congr_left fun r hr => ?_
  simp only [Function.comp, z.get r hr, Option.getD_some]
end
theorem st_cel {h : H} {n : Nat} {c d : Cel} {e : TypeId} {K : H -> Prop} (b : Blk h n c.cells.toArray e) (k : ∀ h', Blk h' n d.cells.toArray e -> Only (· = n) h h' -> h'.size = h.size -> K h') : stH h ⟨n, 0, none⟩ d.cells K := by
  refine stH_of b (Nat.le_refl 3) fun h' q1 q2 q3 => k h' ?_ q2 q3
  rw [writeA_all (by rfl)] at q1
  exact q1
theorem shut1 {d : Nat} {h : H} {K : H -> Prop} (hd : h[d]? = some (.deferred (some []))) (k : ∀ h', Only (· = d) h h' -> K h') : shuts [d] h K :=
  ⟨hd, k _ ⟨by simp [put], fun b hb hn => by simp only [put]; rw [Array.getElem?_setIfInBounds_ne (fun e => hn e.symm)]⟩⟩
theorem rng1_spec {h : H} {n4 n6 : Nat} {fr to c : Cel} {K : Value -> H -> Prop} (b4 : Cells h ⟨n4, 0, none⟩ fr.cells) (b6 : Cells h ⟨n6, 0, none⟩ to.cells) (k : ∀ h', Ext h h' -> K (.bool (decide (cmpC fr c <= 0) && decide (cmpC c to < 0))) h') :
    CV PP (.func (.func no_shard_Shard_Range_1) #[] #[.pointer (some ⟨n4, 0, none⟩), .pointer (some ⟨n6, 0, none⟩)]) [.agg c.cells.toArray] h K := by
  refine CV_func (fun a w => no_shard_Shard_Range_1_call a w) ?_
  have : F.xdi c ⟨n4, 0, none⟩ ⟨n6, 0, none⟩ h fun r h' => K (.bool r) h' := by
    unfold F.xdi
    refine new_of fun m h1 hm b1 e1 s1 => ⟨fr, b4.ext e1, c, Blk.cells b1, Compare_spec fun h2 e2 => ⟨fun g => ⟨c, (Blk.cells b1).ext e2, to, (b6.ext e1).ext e2, Compare_spec fun h3 e3 => ?_⟩, fun g => ?_⟩⟩
    · have := k h3 ((e1.trans e2).trans e3)
      rw [g, Bool.true_and] at this; exact this
    · have := k h2 (e1.trans e2)
      rw [g, Bool.false_and] at this; exact this
  have := F.xdi_ok this
  simp only [List.append_toArray, Array.empty_append, Array.append_empty]
  exact this.mono fun r h' ⟨r0, e, q⟩ => by subst e; exact q
def rowsZ (e : Int) (fr to : Cel) (Z : List Rec) : List Rw := (Z.filter fun r => inS e fr to (r.c, r.vs)).map fun r => rowS e (r.c, r.vs)
theorem rows_toS (e : Int) (fr to : Cel) (Z : List Rec) : rangeS (toS Z) e fr to = rowsZ e fr to Z := by
  unfold rangeS rowsZ toS
  rw [List.filter_map, List.map_map]
  rfl
theorem rows_snoc (e : Int) (fr to : Cel) {Z : List Rec} {i : Nat} {r : Rec} (h : Z[i]? = some r) : rowsZ e fr to (Z.take (i + 1)) = rowsZ e fr to (Z.take i) ++ (if inS e fr to (r.c, r.vs) then [rowS e (r.c, r.vs)] else []) := by
  obtain ⟨h1, h2⟩ := List.getElem?_eq_some_iff.1 h
  unfold rowsZ
  rw [List.take_succ_eq_append_getElem h1, h2, List.filter_append, List.map_append]
  congr 1
  by_cases hi : inS e fr to (r.c, r.vs) <;> simp [hi]
theorem rows_pre (e : Int) (fr to : Cel) (Z : List Rec) (i : Nat) : (rowsZ e fr to (Z.take i)) <+: rowsZ e fr to Z := by
  unfold rowsZ
  exact ((List.take_prefix i Z).filter _).map _
structure RI (h hL h' : H) (n2 n4 n6 n8 n10 n12 ka ma b : Nat) (r : Sl) (L : List (ByteArray × Option Addr)) (ep most : Int) (fr to : Cel) (rows : List Rw) : Prop where
  ext : Ext h h'
  b2 : Blk h' n2 #[.int .i64 ep] tn_int
  b4 : Blk h' n4 fr.cells.toArray tn_api_Cell
  b6 : Blk h' n6 to.cells.toArray tn_api_Cell
  b8 : Blk h' n8 #[.int .i64 most] tn_int
  b12 : Blk h' n12 #[.func (.func no_shard_Shard_Range_1) #[] #[.pointer (some ⟨n4, 0, none⟩), .pointer (some ⟨n6, 0, none⟩)]] tn_func_api_Cell_bool
  sq : P.SeqH h' ka ma b r L
  dfr : h'[hL.size]? = some (.deferred (some []))
  out : ∃ o, Blk h' n10 #[o.enc] tn_Slapi_Row ∧ Owns h' o tn_api_Row 7 (rows.flatMap cW) ∧ ∀ x, o.blk = some x -> hL.size + 2 <= x
  len : rows.length <= most.toNat
  sz : hL.size + 1 <= h'.size
  lt : n2 < hL.size ∧ n4 < hL.size ∧ n6 < hL.size ∧ n8 < hL.size ∧ n10 < hL.size ∧ n12 < hL.size ∧ (∀ m, SQF ka ma b r m -> m < hL.size ∧ m ≠ n10) ∧ n2 ≠ n10 ∧ n4 ≠ n10 ∧ n6 ≠ n10 ∧ n8 ≠ n10 ∧ n12 ≠ n10 ∧ h.size <= n10
section
variable {h hL h' h'' : H} {n2 n4 n6 n8 n10 n12 ka ma b : Nat} {r : Sl} {L : List (ByteArray × Option Addr)} {ep most : Int} {fr to : Cel} {rows : List Rw}
theorem RI.only {S : Nat -> Prop} (v : RI h hL h' n2 n4 n6 n8 n10 n12 ka ma b r L ep most fr to rows) (o : Only S h' h'') (hS : ∀ m, S m -> hL.size < m ∧ ∀ o : Sl, Blk h' n10 #[o.enc] tn_Slapi_Row -> o.blk ≠ some m) : RI h hL h'' n2 n4 n6 n8 n10 n12 ka ma b r L ep most fr to rows := by
  obtain ⟨l2, l4, l6, l8, l10, l12, lq, q⟩ := v.lt
  have no : ∀ m, m <= hL.size -> ¬ S m := fun m hm h => by have := (hS m h).1; omega
  obtain ⟨ou, o1, o2, o3⟩ := v.out
  have hle : h.size <= hL.size := by obtain ⟨_, _, _, _, _, hq⟩ := q; omega
  exact ⟨v.ext.step o fun m hm => no m (by omega), o.block v.b2 (no _ (by omega)), o.block v.b4 (no _ (by omega)), o.block v.b6 (no _ (by omega)), o.block v.b8 (no _ (by omega)), o.block v.b12 (no _ (by omega)), v.sq.only o fun m hm => no m (by have := (lq m hm).1; omega), o.block v.dfr (no _ (by omega)),
    ⟨ou, o.block o1 (no _ (by omega)), o2.only o fun m hm hs => (hS m hs).2 ou o1 hm, o3⟩, v.len, by have := o.size; have := v.sz; omega, v.lt⟩
theorem RI.e (v : RI h hL h' n2 n4 n6 n8 n10 n12 ka ma b r L ep most fr to rows) (e : Ext h' h'') : RI h hL h'' n2 n4 n6 n8 n10 n12 ka ma b r L ep most fr to rows := v.only e fun _ f => f.elim
end
theorem Range_spec {h : H} {n : Nat} {S : SL} {slots : Nat} {R : Nat -> Prop} {ep most : Int} {fr to : Cel} {Q : Sl -> H -> Prop} (s : SH h n S slots R)
    (k : ∀ r h', Owns h' r tn_api_Row 7 (((rangeS S ep fr to).take most.toNat).flatMap cW) -> Mine h r -> Ext h h' -> Q r h') : F.xaj (some ⟨n, 0, none⟩) ep fr to most h Q := by
  obtain ⟨tn, rs, es, T, Z, rfl, z⟩ := s
  unfold F.xaj
  refine new_of fun n2 h1 hn2 b2 e1 s1 => new_of fun n4 h3 hn4 b4 e3 s3 => new_of fun n6 h5 hn6 b6 e5 s5 => new_of fun n8 h7 hn8 b8 e7 s7 => new_of fun n10 h9 hn10 b10 e9 s9 => new_of fun n12 h11 hn12 b12 e11 s11 => ?_
  refine stH_of b12 (by simp) fun h13 b13 o13 s13 => ?_
  have x2 : Blk h13 n2 #[.int .i64 ep] tn_int := o13.block (((((e3.trans e5).trans e7).trans e9).trans e11).block b2 fun f => f) (by omega)
  have x4 : Blk h13 n4 fr.cells.toArray tn_api_Cell := o13.block ((((e5.trans e7).trans e9).trans e11).block b4 fun f => f) (by omega)
  have x6 : Blk h13 n6 to.cells.toArray tn_api_Cell := o13.block (((e7.trans e9).trans e11).block b6 fun f => f) (by omega)
  have x8 : Blk h13 n8 #[.int .i64 most] tn_int := o13.block ((e9.trans e11).block b8 fun f => f) (by omega)
  have x10 : Blk h13 n10 #[(⟨none, 0, 0⟩ : Sl).enc] tn_Slapi_Row := o13.block (e11.block b10 fun f => f) (by omega)
  have e013 : Ext h h13 := (((((e1.trans e3).trans e5).trans e7).trans e9).trans e11).step o13 fun m hm hb => by omega
  have z13 := z.ext e013
  simp only [nn_some, add_lit, Nat.zero_add, Nat.add_zero]
  rw [ldP_iff z13.cs3]
  have hcnt := z.count
  have hzl := z.len
  refine P.All_spec z13.th z13.ok (by omega) fun hL ka ma b r sq eL hmine _ => ?_
  rw [all_eq z13] at sq
  have hLs := eL.size
  have hgt : ∀ {Y : List Rec} {i : Nat} {x : ByteArray × Option Addr}, (keysZ Y)[i]? = some x -> ∃ q, Y[i]? = some q ∧ x = (keyB q.c, some ⟨q.p, 0, none⟩) := fun {Y i x} hx => by
    unfold keysZ at hx
    rw [List.getElem?_map] at hx
    cases hy : Y[i]? with
    | none => rw [hy] at hx; cases hx
    | some q => rw [hy] at hx; cases hx; exact ⟨q, rfl, rfl⟩
  -- the end
  have fin : ∀ (h' : H) (rows : List Rw), RI h hL h' n2 n4 n6 n8 n10 n12 ka ma b r (keysZ Z) ep most fr to rows -> rows = (rangeS (toS Z) ep fr to).take most.toNat -> F.xaj.j1 Q (hL.size :: ([] : List Nat)) ⟨n10, 0, none⟩ h' := fun h' rows v hrows => by
    obtain ⟨o, o1, o2, o3⟩ := v.out
    unfold F.xaj.j1
    refine ldL_of (Blk.cell (i := 0) o1 rfl) (shut1 v.dfr fun h9 o9 => ?_)
    rw [hrows] at o2
    refine k o h9 (o2.only o9 fun m hm e => by have := o3 m hm; omega) (fun x hx => by have := o3 x hx; have := e013.size; omega) (v.ext.step o9 fun m hm e => by have := e013.size; omega)
  refine P.range_seq (I := fun i h' => RI h hL h' n2 n4 n6 n8 n10 n12 ka ma b r (keysZ Z) ep most fr to (rowsZ ep fr to (Z.take i)))
    (E := fun j h' => j = 0 ∧ ∃ i, RI h hL h' n2 n4 n6 n8 n10 n12 ka ma b r (keysZ Z) ep most fr to (rowsZ ep fr to (Z.take i)) ∧ most <= ((rowsZ ep fr to (Z.take i)).length : Int))
    (fun i h' h'' v o => v.only o fun m hm => ⟨by omega, fun ou hou hb => ?_⟩) (fun j h' h'' v o => ⟨v.1, v.2.elim fun i hi => ⟨i, hi.1.only o fun m hm => ⟨by omega, fun ou hou hb => ?_⟩, hi.2⟩⟩) (fun i h' v => v.sq) ?_ ?_ (fun h' v => ?_) (fun j h' v => ?_)
  · obtain ⟨o', o1, o2, o3⟩ := v.out
    have heq := o1.symm.trans hou
    have : o' = ou := enc_inj.1 (by simpa using heq)
    subst this
    have := o3 m hb; omega
  · obtain ⟨o', o1, o2, o3⟩ := hi.1.out
    have heq := o1.symm.trans hou
    have : o' = ou := enc_inj.1 (by simpa using heq)
    subst this
    have := o3 m hb; omega
  · have ep0 : Ext hL (hL.push (.deferred (some []))) := .push _ _
    have eH := eL.trans ep0
    refine ⟨e013.trans eH, eH.block x2 fun f => f, eH.block x4 fun f => f, eH.block x6 fun f => f, eH.block x8 fun f => f, eH.block b13 fun f => f, sq.only ep0 fun m hm f => f, by simp, ⟨_, eH.block x10 fun f => f, by simpa [rowsZ] using Owns.nil _ tn_api_Row 7, fun x hx => by simp [Sl.blk] at hx⟩, by simp [rowsZ], by simp, ?_⟩
    refine ⟨by omega, by omega, by omega, by omega, by omega, by omega, fun m hm => ⟨sq.lt m hm, ?_⟩, by omega, by omega, by omega, by omega, by omega, by omega⟩
    have := hmine m hm; omega
  · intro X i x h5 K J hX v hx hxi kK kJ
    obtain ⟨q, hq, rfl⟩ := hgt hxi
    have hqz : q ∈ Z := List.mem_of_getElem? hq
    obtain ⟨o, o1, o2, o3⟩ := v.out
    have hlo := own_len cW_len (by omega) o2
    refine ldL_of (Blk.cell (i := 0) o1 rfl) (ldI_of (Blk.cell (i := 0) v.b8 rfl) ⟨fun g => ?_, fun g => ?_⟩)
    · have g := of_decide_eq_true g
      exact kJ 0 h5 ⟨rfl, i, v, by rw [← hlo]; exact g⟩ hx
    · have g := of_decide_eq_false g
      have hok := (z.wf q hqz).1
      have hv := (z.wf q hqz).2
      refine Cell_spec (by show (keyL q.c).toArray.size < _; have := key_size hok; simp; omega) fun h6 e6 => ?_
      rw [show (keyB q.c).data.toList = keyL q.c from by simp [keyB], cell_back (ok_may hok) (ok_start hok)]
      refine new_of fun m7 h7 hm7 b7 e7 s7 => ?_
      have b7' : Blk h7 m7 zeroC.cells.toArray tn_api_Cell := b7
      refine st_cel b7' (d := q.c) fun h8 b8' o8 s8 => ?_
      have e58 : Ext h5 h8 := (e6.trans e7).step o8 fun m hm hb => by have := e6.size; omega
      have v8 := v.e e58
      refine ldI_of (Blk.cell (i := 0) v8.b2 rfl) ?_
      have zq := z.ext v8.ext
      refine at_spec (zq.ch q hqz) hv.rise (by have := z.vlen hqz; omega) fun h9 e9 => ?_
      refine new_of fun m10 h10 hm10 bb10 e10 s10 => ?_
      have bb10' : Blk h10 m10 zA.cells.toArray tn_api_Agg := bb10
      refine C.st_agg bb10' fun h11' b11 o11 s11' => ?_
      have e8b : Ext h8 h11' := (e9.trans e10).step o11 fun m hm hb => by have := e9.size; omega
      have e5b := e58.trans e8b
      have v11 := v.e e5b
      have x11 : h11'[hL.size + 1]? = some X := e5b.block hx fun f => f
      have b8b : Blk h11' m7 q.c.cells.toArray tn_api_Cell := e8b.block b8' fun f => f
      have hsn := rows_snoc ep fr to hq
      -- nothing is told
      have skip : ∀ h12', Ext h11' h12' -> inS ep fr to (q.c, q.vs) = false -> K h12' := fun h12' e12 hno => by
        refine kK h12' ?_ (e12.block x11 fun f => f)
        rw [hsn, hno]
        simp only [Bool.false_eq_true, if_false, List.append_nil]
        exact v11.e e12
      have lay : ∀ (h12 : H), Ext h11' h12 -> inS ep fr to (q.c, q.vs) = true -> F.xaj.j2 Q K J (hL.size + 1) ⟨n10, 0, none⟩ ⟨m7, 0, none⟩ ⟨m10, 0, none⟩ true h12 := fun h12 e12 hyes => by
        unfold F.xaj.j2
        refine ⟨fun _ => ?_, fun h => by cases h⟩
        have v12 := v11.e e12
        have e512 := e5b.trans e12
        have o1' : Blk h12 n10 #[o.enc] tn_Slapi_Row := e512.block o1 fun f => f
        refine ldL_of (Blk.cell (i := 0) o1' rfl) ⟨q.c, (Blk.cells b8b).ext e12, (atV q.vs ep).1, (Blk.cells b11).ext e12, ?_⟩
        have hsz : h5.size <= h12.size := e512.size
        have hrl : (rowsZ ep fr to (Z.take i)).length <= 1048576 := by
          unfold rowsZ
          have := List.length_filter_le (fun r : Rec => inS ep fr to (r.c, r.vs)) (Z.take i)
          rw [List.length_map]
          rw [List.length_take] at this
          omega
        have hh5 : hL.size + 1 < h5.size := (Array.getElem?_eq_some_iff.1 hx).1
        refine newL_of fun n14 h14 hn14 b14 e14 s14 => ?_
        refine app_list (L := rowsZ ep fr to (Z.take i)) (M := [rowS ep (q.c, q.vs)]) cW_len (by omega) el_Slapi_Row ((o2.ext e512).ext e14) (blk_reads b14 rfl) (fun x => ones_S_api_Row x) (by simp only [List.length_singleton]; omega) fun r15 h15 w15 o15 n15 => ?_
        have x14 : Blk h14 n10 #[o.enc] tn_Slapi_Row := e14.block o1' fun f => f
        have l10 := v.lt.2.2.2.2.1
        have hob : o.blk ≠ some n10 := fun e => by have := o3 _ e; omega
        have x15 : Blk h15 n10 #[o.enc] tn_Slapi_Row := o15.block x14 hob
        refine stH_of x15 (by simp) fun h16 b16 o16 s16 => ?_
        have r15n : ∀ y, r15.blk = some y -> hL.size + 2 <= y := fun y hy => by
          rcases n15 with n15 | ⟨y', n15, n16⟩
          · exact o3 y (by rw [← n15]; exact hy)
          · rw [n15] at hy; cases hy
            have := e14.size; omega
        have v14 := v12.e e14
        obtain ⟨_, _, _, _, _, _, lq, d2, d4, d6, d8, d12, dh⟩ := v.lt
        have lts := v.lt
        have no : ∀ m, m <= hL.size + 1 -> ¬ (o.blk = some m) := fun m hm e => by have := o3 m e; omega
        refine kK h16 ?_ (o16.block (o15.block (e14.block (e12.block x11 fun f => f) fun f => f) (no _ (Nat.le_refl _))) (by omega))
        have kp : ∀ {m : Nat} {y : Obj}, m <= hL.size -> m ≠ n10 -> h14[m]? = some y -> h16[m]? = some y := fun hm hne hy => o16.block (o15.block hy (no _ (by omega))) hne
        have o14 : Only (fun m => o.blk = some m ∨ m = n10) h14 h16 := (o15.mono fun _ _ e => .inl e).trans o16 fun _ _ e => .inr e
        refine ⟨v14.ext.step o14 fun m hm e => ?_, kp (by omega) d2 v14.b2, kp (by omega) d4 v14.b4, kp (by omega) d6 v14.b6, kp (by omega) d8 v14.b8, kp (by omega) d12 v14.b12, v14.sq.only o14 fun m hm e => ?_, kp (Nat.le_refl _) (by omega) v14.dfr, ⟨r15, b16, ?_, r15n⟩, ?_, ?_, lts⟩
        · have hle : h.size <= hL.size := by have := e013.size; omega
          rcases e with e | e
          · have := o3 m e; omega
          · omega
        · rcases e with e | e
          · have := o3 m e; have := (lq m hm).1; omega
          · exact (lq m hm).2 e
        · rw [hsn, hyes]
          exact w15.only o16 fun m hm e => by have := r15n m hm; omega
        · rw [hsn, hyes, List.length_append]
          simp only [if_true, List.length_singleton]
          rw [hlo] at g; omega
        · have := o14.size; have := v14.sz; omega
      refine ⟨fun g2 => ?_, fun g2 => ?_⟩
      · refine ⟨_, Blk.cell (i := 0) v11.b12 rfl, q.c, Blk.cells b8b, rng1_spec (Blk.cells v11.b4) (Blk.cells v11.b6) fun h12 e12 => ⟨_, rfl, ?_⟩⟩
        have hin : inS ep fr to (q.c, q.vs) = (decide (cmpC fr q.c <= 0) && decide (cmpC q.c to < 0)) := by
          unfold inS; rw [show (atV (q.c, q.vs).2 ep).2 = true from g2, Bool.true_and]
        rw [← hin]
        cases hi : inS ep fr to (q.c, q.vs) with
        | true => exact lay h12 e12 hi
        | false =>
          unfold F.xaj.j2
          exact ⟨fun h => (by cases h), fun _ => skip h12 e12 hi⟩
      · unfold F.xaj.j2
        refine ⟨fun h => (by cases h), fun _ => skip h11' (.refl _) ?_⟩
        unfold inS; rw [show (atV (q.c, q.vs).2 ep).2 = false from g2, Bool.false_and]
  · refine fin h' _ v ?_
    rw [keysZ_len, List.take_length, rows_toS]
    have hl := v.len
    rw [keysZ_len, List.take_length] at hl
    exact (List.take_of_length_le hl).symm
  · obtain ⟨rfl, i, v, hm⟩ := v
    refine ⟨_, rfl, fun _ => fin h' _ v ?_⟩
    rw [rows_toS]
    have hl := v.len
    obtain ⟨tl, htl⟩ := rows_pre ep fr to Z i
    rw [← htl]
    have : most.toNat = (rowsZ ep fr to (Z.take i)).length := by omega
    rw [this, List.take_left]
theorem max_of {k : IntKind} {ts : Array TypeId} {t : TypeId} {h : H} {a b : Int} {K : Int -> H -> Prop} (kk : K (if a < b then b else a) h) : runI PP (Builtin.max_ ts t #[.int k a, .int k b]) h k K := fun w hw =>
  ⟨_, w, rfl, .refl _, _, rfl, by rw [hw]; exact kk⟩
def maxL (L : List Nat) : Nat := L.foldl max 0
theorem w64s {n : Nat} (h : n < 9000000000000000000) : IntKind.wrap .i64 ((n : Int) + 1) = ((n + 1 : Nat) : Int) := by rw [w64 (by omega) (by omega)]; omega
abbrev cN (n : Nat) : List Value := [.int .i64 (n : Int)]
theorem cN_len (n : Nat) : (cN n).length = 1 := rfl
theorem Max_spec {h : H} {s : Sl} {L : List Nat} {Q : Int -> H -> Prop} (rd : Reads h s 1 (L.flatMap cN)) (hn : L ≠ []) (hl : L.length < 4611686018427387904) (k : Q (maxL L : Int) h) : F.xaz s h Q := by
  have hs := rd_len cN_len (by omega) rd
  have hpos := List.length_pos_iff.2 hn
  have at_ : ∀ {i : Nat} {x : Nat} {K : Int -> Prop}, L[i]? = some x -> K (x : Int) -> idxA s (i : Int) 1 fun a => ldI .i64 h a K := fun {i x K} hx kk => by
    obtain ⟨p, p1, p2, p3⟩ := rd_at cN_len (by omega) rd hx
    exact idxR_of (i := i) p1 (by have := (List.getElem?_eq_some_iff.1 hx).1; omega) rfl ((ldI_iff (n := x) p3.one).2 kk)
  unfold F.xaz
  rw [hs]
  refine ⟨fun g => by have := of_decide_eq_true g; omega, fun _ => ?_⟩
  unfold F.xaz.j1
  obtain ⟨x0, hx0⟩ : ∃ x, L[0]? = some x := ⟨_, List.getElem?_eq_getElem hpos⟩
  refine at_ (i := 0) hx0 ⟨L.length + 1, ?_⟩
  have key : ∀ (d i m : Nat), i <= L.length -> L.length - i < d -> m = maxL (L.take i) -> F.xaz.l2 Q d s (m : Int) (i : Int) h := by
    intro d
    induction d with
    | zero => intro i m _ hd; omega
    | succ d ih =>
      intro i m hi hd hm
      unfold F.xaz.l2
      rw [hs]
      refine ⟨fun g => ?_, fun g => ?_⟩
      · have g := of_decide_eq_true g
        obtain ⟨x, hx⟩ : ∃ x, L[i]? = some x := ⟨_, List.getElem?_eq_getElem (by omega)⟩
        refine at_ hx (max_of ?_)
        rw [w64s (by omega)]
        have hmx : (if (m : Int) < (x : Int) then (x : Int) else (m : Int)) = ((max m x : Nat) : Int) := by split <;> omega
        rw [hmx]
        refine ih (i + 1) (max m x) (by omega) (by omega) ?_
        obtain ⟨h1, h2⟩ := List.getElem?_eq_some_iff.1 hx
        rw [List.take_succ_eq_append_getElem h1, h2]
        unfold maxL at hm ⊢
        rw [List.foldl_append, ← hm]; rfl
      · have : i = L.length := by have := of_decide_eq_false g; omega
        rw [this, List.take_length] at hm
        rw [hm]; exact k
  refine key _ 1 x0 (by omega) (by omega) ?_
  cases L with
  | nil => exact absurd rfl hn
  | cons y r => simp at hx0; subst hx0; simp [maxL]
def lensZ (Z : List Rec) : List Nat := Z.map fun r => r.vs.length
theorem lensZ_len (Z : List Rec) : (lensZ Z).length = Z.length := List.length_map _
def mostS (S : SL) : Nat := maxL (S.map fun x => x.2.length)
structure MI (h hL h' : H) (n2 ka ma b : Nat) (r : Sl) (L : List (ByteArray × Option Addr)) (out : List Nat) : Prop where
  ext : Ext h h'
  sq : P.SeqH h' ka ma b r L
  dfr : h'[hL.size]? = some (.deferred (some []))
  out : ∃ o, Blk h' n2 #[o.enc] tn_Slint ∧ Owns h' o tn_int 1 (out.flatMap cN) ∧ ∀ x, o.blk = some x -> hL.size + 2 <= x
  sz : hL.size + 1 <= h'.size
  lt : n2 < hL.size ∧ (∀ m, SQF ka ma b r m -> m < hL.size ∧ m ≠ n2) ∧ h.size <= n2
theorem MI.only {h hL h' h'' : H} {n2 ka ma b : Nat} {r : Sl} {L : List (ByteArray × Option Addr)} {out : List Nat} {S : Nat -> Prop} (v : MI h hL h' n2 ka ma b r L out) (o : Only S h' h'') (hS : ∀ m, S m -> hL.size < m ∧ ∀ o : Sl, Blk h' n2 #[o.enc] tn_Slint -> o.blk ≠ some m) : MI h hL h'' n2 ka ma b r L out := by
  obtain ⟨l2, lq, q⟩ := v.lt
  have no : ∀ m, m <= hL.size -> ¬ S m := fun m hm h => by have := (hS m h).1; omega
  obtain ⟨ou, o1, o2, o3⟩ := v.out
  exact ⟨v.ext.step o fun m hm => no m (by omega), v.sq.only o fun m hm => no m (by have := (lq m hm).1; omega), o.block v.dfr (no _ (by omega)),
    ⟨ou, o.block o1 (no _ (by omega)), o2.only o fun m hm hs => (hS m hs).2 ou o1 hm, o3⟩, by have := o.size; have := v.sz; omega, v.lt⟩
theorem Most_spec {h : H} {n : Nat} {S : SL} {slots : Nat} {R : Nat -> Prop} {Q : Int -> H -> Prop} (s : SH h n S slots R) (k : ∀ h', Ext h h' -> Q (mostS S : Int) h') : F.xcj (some ⟨n, 0, none⟩) h Q := by
  obtain ⟨tn, rs, es, T, Z, rfl, z⟩ := s
  unfold F.xcj
  refine new_of fun n2 h1 hn2 b2 e1 s1 => ?_
  have z1 := z.ext e1
  simp only [nn_some, add_lit, Nat.zero_add, Nat.add_zero]
  rw [ldP_iff z1.cs3]
  have hcnt := z.count
  have hzl := z.len
  refine P.All_spec z1.th z1.ok (by omega) fun hL ka ma b r sq eL hmine _ => ?_
  rw [all_eq z1] at sq
  have hLs := eL.size
  have hmost : mostS (toS Z) = maxL (lensZ Z) := by unfold mostS toS lensZ; rw [List.map_map]; rfl
  refine P.range_seq (I := fun i h' => MI h hL h' n2 ka ma b r (keysZ Z) (lensZ (Z.take i))) (E := fun j h' => False)
    (fun i h' h'' v o => v.only o fun m hm => ⟨by omega, fun ou hou hb => ?_⟩) (fun j h' h'' v o => v) (fun i h' v => v.sq) ?_ ?_ (fun h' v => ?_) (fun j h' v => v.elim)
  · obtain ⟨o', o1, o2, o3⟩ := v.out
    have heq := o1.symm.trans hou
    have : o' = ou := enc_inj.1 (by simpa using heq)
    subst this
    have := o3 m hb; omega
  · have ep0 : Ext hL (hL.push (.deferred (some []))) := .push _ _
    refine ⟨(e1.trans eL).trans ep0, sq.only ep0 fun m hm f => f, by simp, ⟨_, ep0.block (eL.block b2 fun f => f) fun f => f, by simpa [lensZ] using Owns.nil _ tn_int 1, fun x hx => by simp [Sl.blk] at hx⟩, by simp, ?_⟩
    exact ⟨by omega, fun m hm => ⟨sq.lt m hm, by have := hmine m hm; omega⟩, by omega⟩
  · intro X i x h5 K J hX v hx hxi kK kJ
    unfold keysZ at hxi
    rw [List.getElem?_map] at hxi
    obtain ⟨q, hq, rfl⟩ : ∃ q, Z[i]? = some q ∧ x = (keyB q.c, some ⟨q.p, 0, none⟩) := by
      cases hy : Z[i]? with
      | none => rw [hy] at hxi; cases hxi
      | some q => rw [hy] at hxi; cases hxi; exact ⟨q, rfl, rfl⟩
    have hqz : q ∈ Z := List.mem_of_getElem? hq
    obtain ⟨o, o1, o2, o3⟩ := v.out
    have hlo := own_len cN_len (by omega) o2
    rw [lensZ_len, List.length_take] at hlo
    have zq := z.ext v.ext
    have c5 : cellH h5 ⟨n2, 0, none⟩ = some o.enc := Blk.cell (i := 0) o1 rfl
    refine ldL_of c5 (C.Len_spec (zq.ch q hqz) ⟨c5, ?_⟩)
    refine newL_of fun n14 h14 hn14 b14 e14 s14 => ⟨e14.cell c5 fun f => f, ?_⟩
    have hi : i < Z.length := (List.getElem?_eq_some_iff.1 hq).1
    refine app_list (L := lensZ (Z.take i)) (M := [q.vs.length]) cN_len (by omega) el_Slint (o2.ext e14) (blk_reads b14 rfl) (fun x => one1 rfl) (by simp only [List.length_singleton, lensZ_len, List.length_take]; omega) fun r15 h15 w15 o15 n15 => ?_
    have x14 : Blk h14 n2 #[o.enc] tn_Slint := e14.block o1 fun f => f
    obtain ⟨l2, lq, ld⟩ := v.lt
    have lts := v.lt
    have hob : o.blk ≠ some n2 := fun e => by have := o3 _ e; omega
    have x15 : Blk h15 n2 #[o.enc] tn_Slint := o15.block x14 hob
    have hh5 : hL.size + 1 < h5.size := (Array.getElem?_eq_some_iff.1 hx).1
    refine stH_of x15 (by simp) fun h16 b16 o16 s16 => ?_
    have r15n : ∀ y, r15.blk = some y -> hL.size + 2 <= y := fun y hy => by
      rcases n15 with n15 | ⟨y', n15, n16⟩
      · exact o3 y (by rw [← n15]; exact hy)
      · rw [n15] at hy; cases hy
        have := e14.size; omega
    have v14 : MI h hL h14 n2 ka ma b r (keysZ Z) (lensZ (Z.take i)) := v.only e14 fun _ f => f.elim
    have no : ∀ m, m <= hL.size + 1 -> ¬ (o.blk = some m) := fun m hm e => by have := o3 m e; omega
    have o14 : Only (fun m => o.blk = some m ∨ m = n2) h14 h16 := (o15.mono fun _ _ e => .inl e).trans o16 fun _ _ e => .inr e
    refine kK h16 ⟨v14.ext.step o14 fun m hm e => ?_, v14.sq.only o14 fun m hm e => ?_, o14.block v14.dfr fun e => ?_, ⟨r15, b16, ?_, r15n⟩, ?_, lts⟩ (o14.block (e14.block hx fun f => f) fun e => ?_)
    · rcases e with e | e
      · have := o3 m e; have := (e1.trans eL).size; omega
      · omega
    · rcases e with e | e
      · have := o3 m e; have := (lq m hm).1; omega
      · exact (lq m hm).2 e
    · rcases e with e | e
      · exact no _ (by omega) e
      · omega
    · have hsn : lensZ (Z.take (i + 1)) = lensZ (Z.take i) ++ [q.vs.length] := by
        unfold lensZ
        obtain ⟨h1, h2⟩ := List.getElem?_eq_some_iff.1 hq
        rw [List.take_succ_eq_append_getElem h1, h2, List.map_append]; rfl
      rw [hsn]
      exact w15.only o16 fun m hm e => by have := r15n m hm; omega
    · have := o14.size; have := v14.sz; omega
    · rcases e with e | e
      · exact no _ (Nat.le_refl _) e
      · omega
  · obtain ⟨o, o1, o2, o3⟩ := v.out
    rw [keysZ_len, List.take_length] at o2
    have hlo := own_len cN_len (by omega) o2
    rw [lensZ_len] at hlo
    have c5 : cellH h' ⟨n2, 0, none⟩ = some o.enc := Blk.cell (i := 0) o1 rfl
    have hle : h.size <= hL.size := (e1.trans eL).size
    refine ldL_of c5 ⟨fun g => ?_, fun g => ldL_of c5 ?_⟩
    · have hz : Z = [] := List.eq_nil_of_length_eq_zero (by have : (o.len : Int) = 0 := by simpa using g
                                                            omega)
      refine shut1 v.dfr fun h9 o9 => ?_
      have := k h9 (v.ext.step o9 fun m hm e => by omega)
      rw [hmost, hz] at this; exact this
    · have hz : Z ≠ [] := fun e => by rw [e] at hlo; simp [hlo] at g
      refine Max_spec o2.reads (by simpa [lensZ] using hz) (by rw [lensZ_len]; omega) (shut1 v.dfr fun h9 o9 => ?_)
      have := k h9 (v.ext.step o9 fun m hm e => by omega)
      rw [hmost] at this; exact this
theorem aliveN_nil : aliveN [] = 0 := rfl
theorem prune_alive {vs : List Ver} (hv : VOk vs) (E : List Int) : aliveN (C.pruneM vs E) = aliveN vs := by
  have hl : (C.newestM vs) = ((vs.getLast hv.ne).value, (vs.getLast hv.ne).epoch, !(vs.getLast hv.ne).dead) := by
    unfold C.newestM; rw [List.getLast?_eq_some_getLast hv.ne]
  rcases C.prune_last hv.rise hv.ne E with ⟨h1, h2⟩ | h1
  · rw [h1, aliveN_nil]
    unfold aliveN alive
    rw [hl, h2]; rfl
  · unfold aliveN alive
    rw [hl]
    unfold C.newestM
    rw [h1]
theorem prune_ok {vs : List Ver} (hv : VOk vs) (E : List Int) (h : C.pruneM vs E ≠ []) : VOk (C.pruneM vs E) := by
  have hs := C.prune_sub vs E
  exact ⟨h, C.rise_sub hv.rise hs, fun v hm => hv.dead v (hs.subset hm), fun v hm => hv.ep v (hs.subset hm)⟩
theorem prune_units {vs : List Ver} (hv : VOk vs) (E : List Int) : unitsV (C.pruneM vs E) + (vs.length - (C.pruneM vs E).length) = unitsV vs := by
  have h1 := prune_alive hv E
  have h2 := C.prune_le vs E
  rw [units_eq, units_eq, h1]; omega
def diffN (E : List Int) (Z : List Rec) : Nat := (Z.map fun r => r.vs.length - (C.pruneM r.vs E).length).sum
def emptyK (E : List Int) (Z : List Rec) : List ByteArray := (Z.filter fun r => (C.pruneM r.vs E).isEmpty).map fun r => keyB r.c
theorem diff_snoc (E : List Int) {Z : List Rec} {i : Nat} {r : Rec} (h : Z[i]? = some r) : diffN E (Z.take (i + 1)) = diffN E (Z.take i) + (r.vs.length - (C.pruneM r.vs E).length) := by
  obtain ⟨h1, h2⟩ := List.getElem?_eq_some_iff.1 h
  unfold diffN
  rw [List.take_succ_eq_append_getElem h1, h2, List.map_append, List.sum_append]; simp
theorem empty_snoc (E : List Int) {Z : List Rec} {i : Nat} {r : Rec} (h : Z[i]? = some r) : emptyK E (Z.take (i + 1)) = emptyK E (Z.take i) ++ (if (C.pruneM r.vs E).isEmpty then [keyB r.c] else []) := by
  obtain ⟨h1, h2⟩ := List.getElem?_eq_some_iff.1 h
  unfold emptyK
  rw [List.take_succ_eq_append_getElem h1, h2, List.filter_append, List.map_append]
  congr 1
  by_cases hi : (C.pruneM r.vs E).isEmpty <;> simp [hi]
theorem setK_idx {α : Type} {key : α -> Cel} {x : α} : ∀ {S : List α} {i : Nat} {y : α}, SortK key S -> S[i]? = some y -> key x = key y -> setK key S x = S.set i x
  | [], i, y, _, h, _ => by simp at h
  | z :: r, 0, y, hs, h, he => by
    simp at h; subst h
    unfold setK
    rw [he, cC_self]; simp
  | z :: r, i + 1, y, hs, h, he => by
    have h' := List.pairwise_cons.1 hs
    have hy : r[i]? = some y := by simpa using h
    have hlt := h'.1 y (List.mem_of_getElem? hy)
    have := cC_anti (key z) (key y)
    unfold setK
    rw [he, if_neg (by omega), if_neg (by omega), setK_idx h'.2 hy he]; rfl
theorem units_filter (S : SL) : unitsS (S.filter fun x => !x.2.isEmpty) = unitsS S ∧ thereS (S.filter fun x => !x.2.isEmpty) = thereS S := by
  induction S with
  | nil => exact ⟨rfl, rfl⟩
  | cons x r ih =>
    unfold unitsS thereS at ih ⊢
    by_cases h : x.2.isEmpty
    · have hx : x.2 = [] := by simpa using h
      simp only [List.filter_cons, h, Bool.not_true, Bool.false_eq_true, if_false, List.map_cons, List.sum_cons]
      rw [hx, show unitsV [] = 0 from rfl, show aliveN [] = 0 from rfl]
      omega
    · simp only [List.filter_cons, h, Bool.not_false, if_true, List.map_cons, List.sum_cons]
      omega
theorem diff_le (E : List Int) : ∀ (Z : List Rec), (∀ r ∈ Z, VOk r.vs) -> unitsS ((toS Z).map fun x => (x.1, C.pruneM x.2 E)) + diffN E Z = unitsS (toS Z) ∧ thereS ((toS Z).map fun x => (x.1, C.pruneM x.2 E)) = thereS (toS Z)
  | [], _ => ⟨rfl, rfl⟩
  | r :: Z, h => by
    have ih := diff_le E Z fun x hx => h x (by simp [hx])
    have h1 := prune_units (h r (by simp)) E
    have h2 := prune_alive (h r (by simp)) E
    unfold unitsS thereS diffN toS at ih ⊢
    simp only [List.map_cons, List.sum_cons]
    omega
theorem prune_sum (E : List Int) {Z : List Rec} (h : ∀ r ∈ Z, VOk r.vs) : unitsS (pruneS (toS Z) E) + diffN E Z = unitsS (toS Z) ∧ thereS (pruneS (toS Z) E) = thereS (toS Z) := by
  have h1 := units_filter ((toS Z).map fun x => (x.1, C.pruneM x.2 E))
  have h2 := diff_le E Z h
  unfold pruneS
  rw [h1.1, h1.2]; exact h2
section
variable {W : List Ver -> Prop} {h h' : H} {n tn : Nat} {rs es : Sl} {T : Tb (Option Addr)} {Z : List Rec} {slots : Nat} {R : Nat -> Prop} {u t : Int}
theorem not_sh {h : H} {m : Nat} {c : Array Value} {e : TypeId} (b : Blk h m c e) (he : ¬ ShE e) : ¬ ShTy h m := fun ⟨e', h1, c', h2⟩ => he (by
  have := b.symm.trans h2
  simp at this
  rw [this.2]; exact h1)
theorem SZG.drop (z : SZG W h n tn rs es T Z slots R u t) {c : Cel} (hc : okC c = 0) {T' : Tb (Option Addr)} {rs' es' : Sl} (th : P.TH h' tn rs' es' T') (ok : TOk T') (stp : Stp h tn rs es h' rs' es') (hget : ∀ k, getM T' k = if kL k = kL (keyB c) then none else getM T k) (hrl : T'.row.length <= 4200000) (hR : ∀ b, h.size <= b -> R b) :
    SZG W h' n tn rs' es' T' (Z.filter fun r => decide (cmpC r.c c ≠ 0)) slots R u t ∧ SOnly R h h' := by
  have hsub : (Z.filter fun r => decide (cmpC r.c c ≠ 0)).Sublist Z := List.filter_sublist
  have hmem : ∀ {r : Rec}, r ∈ (Z.filter fun r => decide (cmpC r.c c ≠ 0)) ↔ r ∈ Z ∧ cmpC r.c c ≠ 0 := fun {r} => by rw [List.mem_filter]; simp
  have hreg : ∀ b, FT tn rs' es' b -> R b := fun b hb => by
    rcases stp.new b hb with e | e
    · rcases e with e | e | e
      · subst e; exact z.rt
      · exact z.rr b e
      · exact z.re b e
    · exact hR b e
  have hus : ∀ (Y : List Rec), unitsS (toS (Y.filter fun r => decide (cmpC r.c c ≠ 0))) <= unitsS (toS Y) := fun Y => by
    induction Y with
    | nil => exact Nat.le_refl _
    | cons x r ih =>
      unfold unitsS toS at ih ⊢
      rw [List.filter_cons]
      split
      · simp only [List.map_cons, List.sum_cons]; omega
      · simp only [List.map_cons, List.sum_cons]; omega
  refine ⟨{ sb := stp.only.block z.sb fun e => z.n_ft e rfl, th := th, ok := ok, ch := fun r hr => ?_, get := fun r hr => ?_, all := fun k v hk => ?_, srt := z.srt.sublist hsub, pd := z.pd.sublist hsub, bd := z.bd.sublist hsub, wf := fun r hr => z.wf r (hmem.1 hr).1, us := Nat.le_trans (hus Z) z.us, sl := z.sl, rl := hrl, rn := z.rn, rt := z.rt, rr := fun b hb => hreg b (.inr (.inl hb)), re := fun b hb => hreg b (.inr (.inr hb)), rp := fun r hr => z.rp r (hmem.1 hr).1 }, ?_⟩
  · have hr' := (hmem.1 hr).1
    exact (z.ch r hr').only stp.only (fun e => (z.ch_ft hr' e).1 rfl) fun b hb e => (z.ch_ft hr' e).2 hb
  · obtain ⟨h1, h2⟩ := hmem.1 hr
    rw [hget, if_neg]
    · exact z.get r h1
    · intro he
      rw [kL_keyB, kL_keyB] at he
      exact h2 (cC_zero.2 (key_inj (z.wf r h1).1 hc he))
  · rw [hget] at hk
    split at hk
    · cases hk
    · rename_i hne
      obtain ⟨r, hr, e⟩ := z.all k v hk
      refine ⟨r, hmem.2 ⟨hr, fun h0 => hne ?_⟩, e⟩
      rw [e, cC_zero.1 h0, kL_keyB]
  · exact stp.only.mono fun b _ e => by
      obtain ⟨ty, q1, q2⟩ := ft_ty z.th e
      refine ⟨?_, ty, ?_, q1⟩
      · rcases e with e | e | e
        · subst e; exact z.rt
        · exact z.rr b e
        · exact z.re b e
      · rcases q2 with rfl | rfl
        · exact .inr (.inl rfl)
        · exact .inr (.inr (.inl rfl))
end
def outZ (Cs : List Cel) (Z : List Rec) : List Rec := Z.filter fun r : Rec => decide (∀ c ∈ Cs, cmpC r.c c ≠ 0)
theorem out_nil (Z : List Rec) : outZ [] Z = Z := by
  unfold outZ; rw [List.filter_eq_self]; intro r _; simp
theorem out_cons (c : Cel) (Cs : List Cel) (Z : List Rec) : outZ (c :: Cs) Z = outZ Cs (Z.filter fun r : Rec => decide (cmpC r.c c ≠ 0)) := by
  unfold outZ
  rw [List.filter_filter]
  congr 1
  funext r
  simp
  rw [Bool.and_comm]
theorem drop_loop {W : List Ver -> Prop} {n tn : Nat} {slots : Nat} {R : Nat -> Prop} {u t : Int} {ds : List Nat} {n4 : Nat} {o : Sl} {Cs : List Cel} {Q : Int -> H -> Prop} {hb : H} (hCs : ∀ c ∈ Cs, okC c = 0) (hlen : Cs.length < 1073741824) (hR : ∀ b, hb.size <= b -> R b) :
    ∀ (d i : Nat) (h : H) (rs es : Sl) (T : Tb (Option Addr)) (Z : List Rec), i <= Cs.length -> Cs.length - i < d -> SZG W h n tn rs es T Z slots R u t -> Owns h o tn_string 1 ((Cs.map keyB).flatMap cT) -> hb.size <= h.size ->
      (∀ h' rs' es' T', SZG W h' n tn rs' es' T' (outZ (Cs.drop i) Z) slots R u t -> SOnly R h h' -> F.xay.l1 Q 1 ds (some ⟨n, 0, none⟩) ⟨n4, 0, none⟩ o (Cs.length : Int) (Cs.length : Int) h') ->
      F.xay.l1 Q d ds (some ⟨n, 0, none⟩) ⟨n4, 0, none⟩ o (Cs.length : Int) (i : Int) h := by
  intro d
  induction d with
  | zero => intro i h rs es T Z _ hd; omega
  | succ d ih =>
    intro i h rs es T Z hi hd z w hsz k
    by_cases hlt : i < Cs.length
    · unfold F.xay.l1
      refine ⟨fun _ => ?_, fun g => by have := of_decide_eq_false g; omega⟩
      obtain ⟨c, hc⟩ : ∃ c, Cs[i]? = some c := ⟨_, List.getElem?_eq_getElem hlt⟩
      have hcm := List.mem_of_getElem? hc
      have hk : (Cs.map keyB)[i]? = some (keyB c) := by rw [List.getElem?_map, hc]; rfl
      obtain ⟨p, p1, p2, p3⟩ := rd_at cT_len (by omega) w.reads hk
      have hl := own_len cT_len (by omega) w
      rw [List.length_map] at hl
      refine idxR_of (i := i) p1 (by omega) rfl ((ldS_iff (n := keyB c) p3.one).2 ?_)
      simp only [nn_some, add_lit, Nat.zero_add, Nat.add_zero]
      rw [ldP_iff z.cs3]
      obtain ⟨T', t1, t2, t3, t4, t5, t6, t7⟩ := drop_ok (z := P.nilA) z.ok (keyB c)
      refine P.Drop_spec z.th z.ok (key_small (hCs c hcm)) t1 fun h2 es2 th2 stp => ?_
      have hz := z.drop (hCs c hcm) th2 t2 stp t4 (by have := z.rl; omega) fun b hb' => hR b (by omega)
      rw [w64s (by omega)]
      have hw : Owns h2 o tn_string 1 ((Cs.map keyB).flatMap cT) := hz.2.owns w (by unfold ShE; decide)
      refine ih (i + 1) h2 rs es2 T' _ (by omega) (by omega) hz.1 hw (by have := hz.2.size; omega) fun h' rs' es' T'' z' so' => ?_
      refine k h' rs' es' T'' ?_ (hz.2.trans so')
      have he : outZ (Cs.drop i) Z = outZ (Cs.drop (i + 1)) (Z.filter fun r : Rec => decide (cmpC r.c c ≠ 0)) := by
        obtain ⟨q1, q2⟩ := List.getElem?_eq_some_iff.1 hc
        rw [List.drop_eq_getElem_cons q1, q2, out_cons]
      rw [he]; exact z'
    · have hi' : i = Cs.length := by omega
      subst hi'
      have hz : outZ (Cs.drop Cs.length) Z = Z := by rw [List.drop_length, out_nil]
      have := k h rs es T (by rw [hz]; exact z) (.refl _)
      unfold F.xay.l1 at this ⊢
      exact ⟨fun g => by have := of_decide_eq_true g; omega, fun g => this.2 g⟩
section
variable {W W' : List Ver -> Prop} {h h' : H} {n tn : Nat} {rs es : Sl} {T : Tb (Option Addr)} {Z : List Rec} {slots : Nat} {R R' : Nat -> Prop} {u t : Int}
theorem SZG.turn (z : SZG W h n tn rs es T Z slots R u t) (hw : ∀ r ∈ Z, W r.vs -> W' r.vs) (hr : ∀ b, b < h.size -> R b -> R' b) : SZG W' h n tn rs es T Z slots R' u t := by
  obtain ⟨l1, l2, l3⟩ := z.f_lt
  exact { z with wf := fun r hr => ⟨(z.wf r hr).1, hw r hr (z.wf r hr).2⟩, rn := hr _ l1 z.rn, rt := hr _ (l2 _ (.inl rfl)) z.rt, rr := fun b hb => hr _ (l2 _ (.inr (.inl hb))) (z.rr b hb), re := fun b hb => hr _ (l2 _ (.inr (.inr hb))) (z.re b hb), rp := fun r hm => ⟨hr _ (l3 r hm).1 (z.rp r hm).1, fun x hx => hr _ ((l3 r hm).2 x hx) ((z.rp r hm).2 x hx)⟩ }
end
abbrev WP (vs : List Ver) : Prop := vs = [] ∨ VOk vs
def ToP (E : List Int) (Z Zi : List Rec) (i : Nat) : Prop := Zi.length = Z.length ∧ ∀ (j : Nat) (r : Rec), Z[j]? = some r -> ∃ B, Zi[j]? = some ⟨r.c, if j < i then C.pruneM r.vs E else r.vs, r.p, B⟩
structure PI (h hL h' : H) (n n2 n4 n7 ka ma b tn : Nat) (rs es r : Sl) (T : Tb (Option Addr)) (L : List (ByteArray × Option Addr)) (held : Sl) (E : List Int) (Z : List Rec) (slots : Nat) (R : Nat -> Prop) (u t : Int) (i : Nat) : Prop where
  so : SOnly R h h'
  b2 : Blk h' n2 #[held.enc] tn_Slint
  b4 : Blk h' n4 #[.int .i64 (diffN E (Z.take i) : Int)] tn_int
  b7 : ∃ o, Blk h' n7 #[o.enc] tn_Slstring ∧ Owns h' o tn_string 1 ((emptyK E (Z.take i)).flatMap cT) ∧ ∀ x, o.blk = some x -> hL.size + 2 <= x
  sq : P.SeqH h' ka ma b r L
  dfr : h'[hL.size]? = some (.deferred (some []))
  sz : hL.size + 1 <= h'.size
  z : ∃ Zi, SZG WP h' n tn rs es T Zi slots (fun b => R b ∧ b ≠ hL.size + 1) u t ∧ ToP E Z Zi i
  lt : n2 < hL.size ∧ n4 < hL.size ∧ n7 < hL.size ∧ h.size <= n2 ∧ h.size <= n4 ∧ h.size <= n7 ∧ n2 ≠ n4 ∧ n2 ≠ n7 ∧ n4 ≠ n7 ∧ ∀ m, SQF ka ma b r m -> m < hL.size ∧ m ≠ n4 ∧ m ≠ n7 ∧ h.size <= m
theorem int_ty : ¬ ShE tn_int := by unfold ShE; decide
theorem str_ty : ¬ ShE tn_string := by unfold ShE; decide
theorem slstr_ty : ¬ ShE tn_Slstring := by unfold ShE; decide
theorem units_take (Z : List Rec) (i : Nat) : unitsS (toS (Z.take i)) <= unitsS (toS Z) := by
  have : toS Z = toS (Z.take i) ++ toS (Z.drop i) := by unfold toS; rw [← List.map_append, List.take_append_drop]
  rw [this]
  unfold unitsS
  rw [List.map_append, List.sum_append]; omega
theorem Prune_spec {h : H} {n : Nat} {S : SL} {slots : Nat} {R : Nat -> Prop} {held : Sl} {E : List Int} {Q : Int -> H -> Prop} (s : SH h n S slots R) (rd : Reads h held 1 (E.flatMap cI)) (hE : E.length < 1073741824)
    (hlt : E ≠ [] -> ∀ b, held.blk = some b -> b < h.size ∧ ¬ (R b ∧ ShTy h b)) (hR : ∀ b, h.size <= b -> R b)
    (k : ∀ h', SH h' n (pruneS S E) slots R -> SOnly R h h' -> Q ((unitsS S : Int) - unitsS (pruneS S E)) h') : F.xay (some ⟨n, 0, none⟩) held h Q := by
  obtain ⟨tn, rs, es, T, Z, hZS, z⟩ := s
  have hvok : ∀ r ∈ Z, VOk r.vs := fun r hr => (z.wf r hr).2
  have hsum := prune_sum E hvok
  rw [hZS] at hsum
  unfold F.xay
  refine new_of fun n2 h1 hn2 b2 e1 s1 => new_of fun n4 h3 hn4 b4 e3 s3 => ?_
  refine stH_of b4 (by simp) fun h5 b5 o5 s5 => new_of fun n7 h6 hn7 b7 e6 s6 => ?_
  have b4' : Blk h5 n4 #[.int .i64 0] tn_int := b5
  have e06 : Ext h h6 := ((e1.trans e3).step o5 fun m hm hb => by omega).trans e6
  have x2 : Blk h6 n2 #[held.enc] tn_Slint := e6.block (o5.block (e3.block b2 fun f => f) (by omega)) fun f => f
  have x4 : Blk h6 n4 #[.int .i64 0] tn_int := e6.block b4' fun f => f
  have z6 := z.ext e06
  simp only [nn_some, add_lit, Nat.zero_add, Nat.add_zero]
  rw [ldP_iff z6.cs3]
  have hcnt := z.count
  have hzl := z.len
  have hus := z.us
  have hsl := z.sl
  obtain ⟨f1, f2, f3⟩ := z.f_lt
  refine P.All_spec z6.th z6.ok (by omega) fun hL ka ma b r sq eL hmine _ => ?_
  rw [all_eq z6] at sq
  have hLs := eL.size
  have e06s := e06.size
  have e0L := e06.trans eL
  -- the record's place
  have keepZ : ∀ {a c : H} {Zi : List Rec} {P : Nat -> Prop}, SZG WP a n tn rs es T Zi slots (fun b => R b ∧ b ≠ hL.size + 1) (unitsS (toS Z) : Int) (thereS (toS Z) : Int) -> Only P a c -> (∀ b, P b -> b = hL.size + 1 ∨ ¬ ShTy a b) -> SZG WP c n tn rs es T Zi slots (fun b => R b ∧ b ≠ hL.size + 1) (unitsS (toS Z) : Int) (thereS (toS Z) : Int) := fun hz o hp => hz.keep o fun b hb ht hP => by
    rcases hp b hP with e | e
    · exact hb.2 e
    · exact e ht
  refine P.range_seq (I := fun i h' => PI h hL h' n n2 n4 n7 ka ma b tn rs es r T (keysZ Z) held E Z slots R (unitsS (toS Z) : Int) (thereS (toS Z) : Int) i) (E := fun j h' => False)
    (fun i h' h'' v o => ?_) (fun j h' h'' v o => v) (fun i h' v => v.sq) ?_ ?_ (fun h' v => ?_) (fun j h' v => v.elim)
  · obtain ⟨l2, l4, l7, g2, g4, g7, d24, d27, d47, lq⟩ := v.lt
    obtain ⟨ou, q1, q2, q3⟩ := v.b7
    obtain ⟨Zi, zi, tp⟩ := v.z
    exact ⟨Only.trans v.so o fun m hm e => by omega, o.block v.b2 (by omega), o.block v.b4 (by omega), ⟨ou, o.block q1 (by omega), q2.only o fun m hm e => by have := q3 m hm; omega, q3⟩, v.sq.only o fun m hm e => by have := (lq m hm).1; omega,
      o.block v.dfr (by omega), by have := o.size; have := v.sz; omega, ⟨Zi, keepZ zi o fun b e => .inl e, tp⟩, v.lt⟩
  · have ep0 : Ext hL (hL.push (.deferred (some []))) := .push _ _
    have eH := eL.trans ep0
    refine ⟨SOnly.of (e06.trans eH), eH.block x2 fun f => f, eH.block x4 fun f => f, ⟨_, eH.block b7 fun f => f, by simpa [emptyK] using Owns.nil _ tn_string 1, fun x hx => by simp [Sl.blk] at hx⟩, sq.only ep0 fun m hm f => f, by simp, by simp, ⟨Z, ?_, rfl, fun j r hj => ⟨r.B, ?_⟩⟩, ?_⟩
    · exact (z.turn (fun r hr hw => .inr hw) fun b hb hr => ⟨hr, by omega⟩).ext (e06.trans eH)
    · rw [if_neg (Nat.not_lt_zero j)]; exact hj
    · exact ⟨by omega, by omega, by omega, by omega, by omega, by omega, by omega, by omega, by omega, fun m hm => ⟨sq.lt m hm, by have := hmine m hm; omega, by have := hmine m hm; omega, by have := hmine m hm; omega⟩⟩
  · intro X i x h5 K J hX v hx hxi kK kJ
    unfold keysZ at hxi
    rw [List.getElem?_map] at hxi
    obtain ⟨q, hq, rfl⟩ : ∃ q, Z[i]? = some q ∧ x = (keyB q.c, some ⟨q.p, 0, none⟩) := by
      cases hy : Z[i]? with
      | none => rw [hy] at hxi; cases hxi
      | some q => rw [hy] at hxi; cases hxi; exact ⟨q, rfl, rfl⟩
    have hqz : q ∈ Z := List.mem_of_getElem? hq
    have lts := v.lt
    obtain ⟨l2, l4, l7, g2, g4, g7, d24, d27, d47, lq⟩ := v.lt
    obtain ⟨o, q1, q2, q3⟩ := v.b7
    obtain ⟨Zi, zi, tl, tp⟩ := v.z
    obtain ⟨B, hB⟩ := tp i q hq
    rw [if_neg (Nat.lt_irrefl i)] at hB
    have hBm := List.mem_of_getElem? hB
    have hqp := (f3 q hqz).1
    have hh5 : hL.size + 1 < h5.size := (Array.getElem?_eq_some_iff.1 hx).1
    have c4 : cellH h5 ⟨n4, 0, none⟩ = some (.int .i64 (diffN E (Z.take i) : Int)) := Blk.cell (i := 0) v.b4 rfl
    refine ldI_of c4 (ldL_of (Blk.cell (i := 0) v.b2 rfl) ?_)
    have rd5 : Reads h5 held 1 (E.flatMap cI) := rd.keep v.so fun hne bb hb hs => (hlt hne bb hb).2 hs
    have hv := hvok q hqz
    have so5 := v.so.size
    have hvl := z.vlen hqz
    have chq : C.Ch h5 q.p q.vs B := zi.ch ⟨q.c, q.vs, q.p, B⟩ hBm
    refine C.Prune_spec chq hv.rise (by omega) hE rd5 (fun hne bb hb => by have := (hlt hne bb hb).1; omega) fun h6 B' c6 o6 kin6 => ?_
    have c46 : cellH h6 ⟨n4, 0, none⟩ = some (.int .i64 (diffN E (Z.take i) : Int)) := o6.cell c4 (by simp only; omega)
    refine ⟨c46, ?_⟩
    have hpu := prune_units hv E
    have hple := C.prune_le q.vs E
    have hsn := diff_snoc E hq
    have hdle := (diff_le E (Z.take (i + 1)) fun r hr => hvok r (List.mem_of_mem_take hr)).1
    have hut := units_take Z (i + 1)
    have hw : IntKind.wrap .i64 ((diffN E (Z.take i) : Int) + ((q.vs.length : Int) - ((C.pruneM q.vs E).length : Int))) = (diffN E (Z.take (i + 1)) : Int) := by rw [w64 (by omega) (by omega)]; omega
    rw [hw]
    have hsetu : unitsS (toS (setK Rec.c Zi ⟨q.c, C.pruneM q.vs E, q.p, B'⟩)) <= slots := by
      rw [toS_set]
      show unitsS (setS (toS Zi) q.c (C.pruneM q.vs E)) <= slots
      have hs : SortS (toS Zi) := by unfold SortS SortK; rw [List.pairwise_map]; exact zi.srt
      have h1 := set_units hs q.c (C.pruneM q.vs E)
      have h2 : getS (toS Zi) q.c = some q.vs := by
        rw [SZG.getS zi q.c]
        have := getK_mem zi.srt hBm
        simp only at this
        rw [this]; rfl
      rw [h2] at h1
      simp only [Option.getD_some] at h1
      have := zi.us
      omega
    have hwp : WP (C.pruneM q.vs E) := by
      by_cases he : C.pruneM q.vs E = []
      · exact .inl he
      · exact .inr (prune_ok hv E he)
    obtain ⟨z6q, so6⟩ := zi.lay (r := ⟨q.c, q.vs, q.p, B⟩) hBm c6 (o6.mono fun _ _ e => .inl e) kin6 hwp hsetu fun bb hb => ⟨hR bb (by omega), by omega⟩
    have z6' : SZG WP h6 n tn rs es T (setK Rec.c Zi ⟨q.c, C.pruneM q.vs E, q.p, B'⟩) slots (fun b => R b ∧ b ≠ hL.size + 1) (unitsS (toS Z) : Int) (thereS (toS Z) : Int) := z6q
    rw [setK_idx (x := ⟨q.c, C.pruneM q.vs E, q.p, B'⟩) zi.srt hB rfl] at z6'
    have tp6 : ToP E Z (Zi.set i ⟨q.c, C.pruneM q.vs E, q.p, B'⟩) (i + 1) := ⟨by rw [List.length_set]; exact tl, fun j r hj => by
      by_cases hji : j = i
      · subst hji
        rw [hq] at hj; cases hj
        exact ⟨B', by rw [List.getElem?_set_self (by rw [tl]; exact (List.getElem?_eq_some_iff.1 hq).1), if_pos (by omega)]⟩
      · obtain ⟨B2, h2⟩ := tp j r hj
        refine ⟨B2, ?_⟩
        rw [List.getElem?_set_ne (fun e => hji e.symm), h2]
        by_cases hlt' : j < i
        · rw [if_pos hlt', if_pos (by omega)]
        · rw [if_neg hlt', if_neg (by omega)]⟩
    have b46 : Blk h6 n4 #[.int .i64 (diffN E (Z.take i) : Int)] tn_int := o6.block v.b4 (by omega)
    refine stH_of b46 (by simp) fun h7 b47 o7 s7 => ?_
    have z7 := keepZ z6' o7 fun bb e => .inr (by subst e; exact not_sh b46 int_ty)
    have no7 : ∀ m, m ≠ q.p -> m ≠ n4 -> ∀ y, h5[m]? = some y -> h7[m]? = some y := fun m h1 h2 y hy => o7.block (o6.block hy h1) h2
    have so7 : SOnly R h h7 := by
      have a1 : SOnly R h5 h6 := so6.mono fun m hm e => ⟨e.1.1, e.2⟩
      exact Only.trans (v.so.trans a1) o7 fun m hm e => by omega
    have o57 : Only (fun m => m = q.p ∨ m = n4) h5 h7 := (o6.mono fun _ _ e => .inl e).trans o7 fun _ _ e => .inr e
    have q2' : Owns h7 o tn_string 1 ((emptyK E (Z.take i)).flatMap cT) := q2.only o57 fun m hm e => by have := q3 m hm; omega
    have sq7 : P.SeqH h7 ka ma b r (keysZ Z) := v.sq.only o57 fun m hm e => by
      have := lq m hm
      rcases e with e | e <;> omega
    have x7 : h7[hL.size + 1]? = some X := no7 _ (by omega) (by omega) _ hx
    have d7 : h7[hL.size]? = some (.deferred (some [])) := no7 _ (by omega) (by omega) _ v.dfr
    have x72 : Blk h7 n2 #[held.enc] tn_Slint := no7 _ (by omega) (by omega) _ v.b2
    have x77 : Blk h7 n7 #[o.enc] tn_Slstring := no7 _ (by omega) (by omega) _ q1
    have sz7 : h5.size <= h7.size := o57.size
    have hmem7 : (⟨q.c, C.pruneM q.vs E, q.p, B'⟩ : Rec) ∈ Zi.set i ⟨q.c, C.pruneM q.vs E, q.p, B'⟩ := List.mem_of_getElem? (List.getElem?_set_self (by rw [tl]; exact (List.getElem?_eq_some_iff.1 hq).1))
    have ch7 : C.Ch h7 q.p (C.pruneM q.vs E) B' := z7.ch ⟨q.c, C.pruneM q.vs E, q.p, B'⟩ hmem7
    refine C.Len_spec ch7 ⟨fun g => ?_, fun g => ?_⟩
    · have h0 : ((C.pruneM q.vs E).length : Int) = 0 := by simpa using g
      have hnil : C.pruneM q.vs E = [] := List.eq_nil_of_length_eq_zero (by omega)
      refine ldL_of (Blk.cell (i := 0) x77 rfl) (newL_of fun n14 h14 hn14 b14 e14 s14 => ?_)
      have hel : (emptyK E (Z.take i)).length <= 1048576 := by
        unfold emptyK
        have := List.length_filter_le (fun r : Rec => (C.pruneM r.vs E).isEmpty) (Z.take i)
        rw [List.length_map]
        rw [List.length_take] at this
        omega
      refine app_list (L := emptyK E (Z.take i)) (M := [keyB q.c]) cT_len (by omega) el_Slstring (q2'.ext e14) (blk_reads b14 rfl) (fun x => one1 rfl) (by simp only [List.length_singleton]; omega) fun r15 h15 w15 o15 n15 => ?_
      have x14 : Blk h14 n7 #[o.enc] tn_Slstring := e14.block x77 fun f => f
      have hob : o.blk ≠ some n7 := fun e => by have := q3 _ e; omega
      have x15 : Blk h15 n7 #[o.enc] tn_Slstring := o15.block x14 hob
      refine stH_of x15 (by simp) fun h16 b16 o16 s16 => ?_
      have r15n : ∀ y, r15.blk = some y -> hL.size + 2 <= y := fun y hy => by
        rcases n15 with n15 | ⟨y', n15, n16⟩
        · exact q3 y (by rw [← n15]; exact hy)
        · rw [n15] at hy; cases hy
          have := e14.size; omega
      have o14 : Only (fun m => o.blk = some m ∨ m = n7) h14 h16 := (o15.mono fun _ _ e => .inl e).trans o16 fun _ _ e => .inr e
      have o716 : Only (fun m => o.blk = some m ∨ m = n7) h7 h16 := (e14.only (S := fun m => o.blk = some m ∨ m = n7)).trans o14 fun _ _ e => e
      have no : ∀ m, m <= hL.size + 1 -> m ≠ n7 -> ¬ (o.blk = some m ∨ m = n7) := fun m hm hne e => by
        rcases e with e | e
        · have := q3 m e; omega
        · exact hne e
      have so16 : SOnly R h h16 := Only.trans so7 o716 fun m hm e => by
        rcases e with e | e
        · have := q3 m e; omega
        · omega
      refine kK h16 ⟨so16, o716.block x72 (no _ (by omega) d27), o716.block b47 (no _ (by omega) d47), ⟨r15, b16, ?_, r15n⟩, sq7.only o716 fun m hm => no m (by have := lq m hm; omega) (lq m hm).2.2.1, o716.block d7 (no _ (by omega) (by omega)), by have := o716.size; omega, ⟨_, keepZ z7 o716 fun bb e => .inr ?_, tp6⟩, lts⟩ (o716.block x7 (no _ (Nat.le_refl _) (by omega)))
      · rw [empty_snoc E hq, if_pos (by rw [hnil]; rfl)]
        exact w15.only o16 fun m hm e => by have := r15n m hm; omega
      · rcases e with e | e
        · obtain ⟨c, hc⟩ := q2'.typ e
          exact not_sh hc str_ty
        · subst e; exact not_sh x77 slstr_ty
    · have hne : (C.pruneM q.vs E).isEmpty = false := by
        cases hp : C.pruneM q.vs E with
        | nil => rw [hp] at g; simp at g
        | cons a b => rfl
      refine kK h7 ⟨so7, x72, b47, ⟨o, x77, ?_, q3⟩, sq7, d7, by omega, ⟨_, z7, tp6⟩, lts⟩ x7
      rw [empty_snoc E hq, hne]
      simpa using q2'
  · obtain ⟨l2, l4, l7, g2, g4, g7, d24, d27, d47, lq⟩ := v.lt
    obtain ⟨o, q1, q2, q3⟩ := v.b7
    obtain ⟨Zn, zn, tl, tp⟩ := v.z
    rw [keysZ_len, List.take_length] at q2
    have b4 := v.b4
    rw [keysZ_len, List.take_length] at b4
    rw [keysZ_len] at tp
    have hek : emptyK E Z = ((Z.filter fun r => (C.pruneM r.vs E).isEmpty).map fun r => r.c).map keyB := by unfold emptyK; rw [List.map_map]; rfl
    rw [hek] at q2
    have hlo := own_len cT_len (by omega) q2
    rw [List.length_map] at hlo
    have so5 := v.so.size
    refine ldL_of (Blk.cell (i := 0) q1 rfl) ⟨((Z.filter fun r : Rec => (C.pruneM r.vs E).isEmpty).map fun r => r.c).length + 1, ?_⟩
    rw [hlo]
    have hfl := List.length_filter_le (fun r : Rec => (C.pruneM r.vs E).isEmpty) Z
    have zR := zn.turn (W' := WP) (R' := R) (fun r hr hw => hw) fun b hb hr => hr.1
    refine drop_loop (hb := h') (fun c hc => ?_) (by rw [List.length_map]; omega) (fun bb hb => hR bb (by omega)) _ 0 h' rs es T Zn (by omega) (by omega) zR q2 (Nat.le_refl _) fun h2 rs2 es2 T2 z2 so2 => ?_
    · obtain ⟨r', hr', rfl⟩ := List.mem_map.1 hc
      exact (z.wf r' (List.mem_filter.1 hr').1).1
    · rw [List.drop_zero] at z2
      unfold F.xay.l1
      refine ⟨fun g => by have := of_decide_eq_true g; omega, fun _ => ?_⟩
      simp only [nn_some, add_lit, Nat.zero_add, Nat.add_zero]
      have b42 : Blk h2 n4 #[.int .i64 (diffN E Z : Int)] tn_int := so2.block b4 fun hs => not_sh b4 int_ty hs.2
      rw [ldI_iff z2.cs0, ldI_iff (Blk.cell (i := 0) b42 rfl)]
      rw [hZS] at z2 ⊢
      rw [hZS] at hus
      rw [w64 (by omega) (by omega)]
      refine z2.st0 fun h3 z3 so3 => ?_
      have b43 : Blk h3 n4 #[.int .i64 (diffN E Z : Int)] tn_int := so3.block b42 fun hs => not_sh b42 int_ty hs.2
      rw [ldI_iff (Blk.cell (i := 0) b43 rfl)]
      have nd : ∀ {hh : H}, hh[hL.size]? = some (.deferred (some [])) -> ¬ ShTy hh hL.size := fun hd ⟨e, _, c, h2⟩ => by
        have := hd.symm.trans h2
        simp at this
      have d2 := so2.block v.dfr fun hs => nd v.dfr hs.2
      have d3 := so3.block d2 fun hs => nd d2 hs.2
      refine shut1 d3 fun h9 o9 => ?_
      have z9 : SZG WP h9 n tn rs2 es2 T2 _ slots R _ _ := z3.keep o9 fun b hb ht e => by subst e; exact nd d3 ht
      have so9 : SOnly R h h9 := Only.trans ((v.so.trans so2).trans so3) o9 fun m hm e => by have := e0L.size; omega
      -- what is left
      have hidx : ∀ x ∈ Zn, ∃ q ∈ Z, x.c = q.c ∧ x.vs = C.pruneM q.vs E := fun x hx => by
        obtain ⟨j, hj⟩ := List.mem_iff_getElem?.1 hx
        have hjl := (List.getElem?_eq_some_iff.1 hj).1
        obtain ⟨q, hq⟩ : ∃ q, Z[j]? = some q := ⟨_, List.getElem?_eq_getElem (by omega)⟩
        obtain ⟨B, hB⟩ := tp j q hq
        rw [hj, if_pos (by omega)] at hB
        cases hB
        exact ⟨q, List.mem_of_getElem? hq, rfl, rfl⟩
      have htoS : toS Zn = (toS Z).map fun x => (x.1, C.pruneM x.2 E) := by
        apply List.ext_getElem?
        intro j
        unfold toS
        rw [List.map_map, List.getElem?_map, List.getElem?_map]
        cases hq : Z[j]? with
        | none =>
          have : Zn[j]? = none := by rw [List.getElem?_eq_none_iff] at hq ⊢; omega
          rw [this]; rfl
        | some q =>
          obtain ⟨B, hB⟩ := tp j q hq
          rw [if_pos (by have := (List.getElem?_eq_some_iff.1 hq).1; omega)] at hB
          rw [hB]; rfl
      have hout : outZ ((Z.filter fun r : Rec => (C.pruneM r.vs E).isEmpty).map fun r => r.c) Zn = Zn.filter fun r : Rec => !r.vs.isEmpty := by
        unfold outZ
        refine List.filter_congr fun x hx => ?_
        obtain ⟨q, hq, h1, h2⟩ := hidx x hx
        rw [h2]
        cases he : (C.pruneM q.vs E).isEmpty with
        | true =>
          have : ¬ ∀ c ∈ (Z.filter fun r : Rec => (C.pruneM r.vs E).isEmpty).map (fun r => r.c), cmpC x.c c ≠ 0 := fun hall => hall q.c (List.mem_map.2 ⟨q, List.mem_filter.2 ⟨hq, he⟩, rfl⟩) (by rw [h1]; exact cC_self _)
          rw [decide_eq_false this]; rfl
        | false =>
          have : ∀ c ∈ (Z.filter fun r : Rec => (C.pruneM r.vs E).isEmpty).map (fun r => r.c), cmpC x.c c ≠ 0 := fun c hc h0 => by
            obtain ⟨q', hq', rfl⟩ := List.mem_map.1 hc
            obtain ⟨m1, m2⟩ := List.mem_filter.1 hq'
            have hcc := (cC_zero.1 h0).symm.trans h1
            have g1 := getK_mem z.srt m1
            have g2 := getK_mem z.srt hq
            rw [hcc, g2] at g1
            cases g1
            rw [he] at m2; cases m2
          rw [decide_eq_true this]; rfl
      rw [hout] at z9
      have hS' : toS (Zn.filter fun r : Rec => !r.vs.isEmpty) = pruneS S E := by
        rw [← hZS]
        unfold pruneS
        rw [← htoS]
        unfold toS
        rw [List.filter_map]; rfl
      have zz : SZ h9 n tn rs2 es2 T2 _ slots R _ _ := z9.turn (W' := VOk) (R' := R) (fun x hx hw => by
        obtain ⟨m1, m2⟩ := List.mem_filter.1 hx
        obtain ⟨q, hq, h1, h2⟩ := hidx x m1
        rw [h2] at m2 ⊢
        exact prune_ok (hvok q hq) E fun e => by rw [e] at m2; cases m2) fun b hb hr => hr
      have hdiff : ((diffN E Z : Nat) : Int) = (unitsS S : Int) - unitsS (pruneS S E) := by omega
      rw [hdiff]
      refine k h9 ⟨tn, rs2, es2, T2, _, hS', ?_⟩ so9
      rw [hS', hsum.2]
      have : (unitsS S : Int) - (diffN E Z : Int) = unitsS (pruneS S E) := by omega
      rw [this] at zz
      exact zz
abbrev oneA (v : Int) : S_api_Agg := ⟨1, v, v, v⟩
theorem one_spec {h : H} {v : Int} {Q : S_api_Agg -> H -> Prop} (k : ∀ h', Ext h h' -> Q (oneA v) h') : F.xbs v h Q := by
  unfold F.xbs
  refine new_of fun m h1 hm b1 e1 s1 => ?_
  have b1' : Blk h1 m zA.cells.toArray tn_api_Agg := b1
  exact C.st_agg b1' (d := oneA v) fun h2 b2 o2 s2 => ⟨_, b2.cells, k h2 (e1.step o2 fun x hx hb => by omega)⟩
theorem right_one (a b c : Int) : RightIs ⟨1, a, b, c⟩ (decide (b = a ∧ c = a)) := fun h Q k => by
  unfold F.xbl
  refine new_of fun m h1 hm b1 e1 s1 => ?_
  have c0 : cellH h1 ⟨m, 0, none⟩ = some (.int .i64 1) := Blk.cells b1 0 _ rfl
  have c1 : cellH h1 ⟨m, 1, none⟩ = some (.int .i64 a) := Blk.cells b1 1 _ rfl
  have c2 : cellH h1 ⟨m, 2, none⟩ = some (.int .i64 b) := Blk.cells b1 2 _ rfl
  have c3 : cellH h1 ⟨m, 3, none⟩ = some (.int .i64 c) := Blk.cells b1 3 _ rfl
  simp only [add_lit, Nat.zero_add, Nat.add_zero]
  rw [ldI_iff c0]
  refine ⟨fun g => by have := of_decide_eq_true g; omega, fun _ => ?_⟩
  rw [ldI_iff c0]
  refine ⟨fun _ => ?_, fun g => by simp at g⟩
  rw [ldI_iff c2, ldI_iff c1]
  have k := k h1 e1
  refine ⟨fun g => ?_, fun g => ?_⟩
  · have g : b = a := by simpa using g
    rw [ldI_iff c3, ldI_iff c1]
    have : decide (b = a ∧ c = a) = (c == a) := by
      by_cases h : c = a <;> simp [g, h]
    rw [this] at k; exact k
  · have g : ¬ b = a := by simpa using g
    have : decide (b = a ∧ c = a) = false := by simp [g]
    rw [this] at k; exact k
theorem right_one' (v : Int) : RightIs (oneA v) true := by
  have := right_one v v v
  simpa using this
theorem agg_eq {a b : S_api_Agg} : ((a.Count == b.Count) && ((a.Sum == b.Sum) && ((a.Min == b.Min) && ((a.Max == b.Max) && true)))) = true ↔ a = b := by
  obtain ⟨a1, a2, a3, a4⟩ := a
  obtain ⟨b1, b2, b3, b4⟩ := b
  simp [and_assoc]
abbrev cA : Cel := ⟨0, ⟨#[97]⟩, 0⟩
theorem key_some {t : ByteArray} (h : 1 <= t.size) : t.data.toList ≠ [] := fun e => by
  have := size_data (s := t)
  rw [e] at this
  simp only [List.length_nil] at this
  omega
def withinM (a m : Int) : Int := if Int.tmod a m < 0 then Int.tmod a m + m else Int.tmod a m
theorem within_range {a m : Int} (h : 0 < m) : 0 <= withinM a m ∧ withinM a m < m := by
  have h1 := Int.tmod_lt_of_pos a h
  have h2 : -m < Int.tmod a m := by
    have := Int.tmod_lt_of_pos (-a) h
    rw [Int.neg_tmod] at this
    omega
  unfold withinM
  split <;> omega
theorem within_spec {a m : Int} {h : H} {Q : Int -> H -> Prop} (h0 : 0 < m) (h1 : m < 4611686018427387904) (k : Q (withinM a m) h) : F.xax a m h Q := by
  have hr := Int.tmod_lt_of_pos a h0
  have h2 : -m < Int.tmod a m := by
    have := Int.tmod_lt_of_pos (-a) h0
    rw [Int.neg_tmod] at this
    omega
  unfold F.xax F.xax.j1
  unfold withinM at k
  refine ⟨by omega, fun g => ?_, fun g => ?_⟩
  · have g := of_decide_eq_true g
    rw [if_pos g] at k
    rw [w64 (by omega) (by omega)]; exact k
  · have g := of_decide_eq_false g
    rw [if_neg g] at k; exact k
theorem rowAt {h : H} {s : Sl} {A : List Rw} (rd : Reads h s 7 (A.flatMap cW)) {i : Nat} {x : Rw} (hx : A[i]? = some x) {K : Addr -> Prop} (k : ∀ a, Cells h a (cW x) -> K a) : idxA s (i : Int) 7 K := by
  obtain ⟨p, p1, p2, p3⟩ := rd_at cW_len (by omega) rd hx
  have hl := rd_len cW_len (by omega) rd
  exact idxR_of (i := i) p1 (by have := (List.getElem?_eq_some_iff.1 hx).1; omega) rfl (k _ p3)
theorem row_eq {x y : Rw} : ((((x.Cell.View == y.Cell.View) && ((x.Cell.Key.toList == y.Cell.Key.toList) && ((x.Cell.Start == y.Cell.Start) && true)))) && ((((x.Agg.Count == y.Agg.Count) && ((x.Agg.Sum == y.Agg.Sum) && ((x.Agg.Min == y.Agg.Min) && ((x.Agg.Max == y.Agg.Max) && true))))) && true)) = true ↔ x = y := by
  obtain ⟨⟨a1, ⟨⟨a2⟩⟩, a3⟩, ⟨a4, a5, a6, a7⟩⟩ := x
  obtain ⟨⟨b1, ⟨⟨b2⟩⟩, b3⟩, ⟨b4, b5, b6, b7⟩⟩ := y
  simp [toList_data, and_assoc]
theorem tk_snoc {α : Type} {L : List α} {i : Nat} {x : α} (h : L[i]? = some x) : L.take (i + 1) = L.take i ++ [x] := by
  obtain ⟨h1, h2⟩ := List.getElem?_eq_some_iff.1 h
  rw [List.take_succ_eq_append_getElem h1, h2]
theorem SameRows_spec {h : H} {r s : Sl} {A C : List Rw} {Q : Bool -> H -> Prop} (ra : Reads h r 7 (A.flatMap cW)) (rc : Reads h s 7 (C.flatMap cW)) (hs : A.length < 4000000) (kt : A = C -> Q true h) (kf : A ≠ C -> Q false h) : F.xbo r s h Q := by
  have la := rd_len cW_len (by omega) ra
  have lc := rd_len cW_len (by omega) rc
  unfold F.xbo
  rw [la, lc]
  refine ⟨fun gg => kf fun e => by rw [e] at gg; simp at gg, fun gg => ⟨A.length + 1, ?_⟩⟩
  have hl : A.length = C.length := by simp at gg; omega
  have key : ∀ (d i : Nat), i <= A.length -> A.length - i < d -> A.take i = C.take i -> F.xbo.l1 Q d r s (i : Int) h := by
    intro d
    induction d with
    | zero => intro i _ hm; omega
    | succ d ih =>
      intro i hi hm he
      unfold F.xbo.l1
      simp only [decide_eq_true_eq, decide_eq_false_iff_not]
      rw [la]
      refine ⟨fun gg => ?_, fun gg => ?_⟩
      · obtain ⟨x, hx⟩ : ∃ x, A[i]? = some x := ⟨_, List.getElem?_eq_getElem (by omega)⟩
        obtain ⟨y, hy⟩ : ∃ y, C[i]? = some y := ⟨_, List.getElem?_eq_getElem (by omega)⟩
        refine rowAt ra hx fun a ca => ⟨x, ca, rowAt rc hy fun a' ca' => ⟨y, ca', ?_⟩⟩
        have hrow := row_eq (x := x) (y := y)
        refine ⟨fun g2 => kf fun e => ?_, fun g2 => ?_⟩
        · have : x = y := by rw [e] at hx; rw [hx] at hy; exact Option.some.inj hy
          rw [hrow.2 this] at g2; cases g2
        · have hxy : x = y := hrow.1 (by simpa using g2)
          rw [w64s (by omega)]
          refine ih (i + 1) (by omega) (by omega) ?_
          rw [tk_snoc hx, tk_snoc hy, he, hxy]
      · have : i = A.length := by omega
        subst this
        rw [List.take_length] at he
        exact kt (by rw [he, hl, List.take_length])
  exact key _ 0 (by omega) (by omega) (by simp)
structure St where
  x : S_spatelaw7_Step
  E : List Int
  C : List Cel
structure StOk (h : H) (y : St) : Prop where
  re : Reads h y.x.Held 1 (y.E.flatMap cI)
  be : y.E ≠ [] -> ∀ b, y.x.Held.blk = some b -> b < h.size
  oe : ∀ e ∈ y.E, -9223372036854775808 <= e ∧ e < 9223372036854775808
  rc : Reads h y.x.Cells 3 (y.C.flatMap S_api_Cell.cells)
  bc : y.C ≠ [] -> ∀ b, y.x.Cells.blk = some b -> b < h.size
  oc : ∀ c ∈ y.C, (-9223372036854775808 <= c.View ∧ c.View < 9223372036854775808) ∧ (-9223372036854775808 <= c.Start ∧ c.Start < 9223372036854775808) ∧ c.Key.size <= maxLen
  k64 : -9223372036854775808 <= y.x.Kind ∧ y.x.Kind < 9223372036854775808
  e64 : -9223372036854775808 <= y.x.Epoch ∧ y.x.Epoch < 9223372036854775808
  m64 : -9223372036854775808 <= y.x.Most ∧ y.x.Most < 9223372036854775808
  cel : (-9223372036854775808 <= y.x.Cell.View ∧ y.x.Cell.View < 9223372036854775808) ∧ (-9223372036854775808 <= y.x.Cell.Start ∧ y.x.Cell.Start < 9223372036854775808) ∧ y.x.Cell.Key.size <= maxLen
  agg : (-9223372036854775808 <= y.x.Agg.Count ∧ y.x.Agg.Count < 9223372036854775808) ∧ (-9223372036854775808 <= y.x.Agg.Sum ∧ y.x.Agg.Sum < 9223372036854775808) ∧ (-9223372036854775808 <= y.x.Agg.Min ∧ y.x.Agg.Min < 9223372036854775808) ∧ (-9223372036854775808 <= y.x.Agg.Max ∧ y.x.Agg.Max < 9223372036854775808)
  too : (-9223372036854775808 <= y.x.To.View ∧ y.x.To.View < 9223372036854775808) ∧ (-9223372036854775808 <= y.x.To.Start ∧ y.x.To.Start < 9223372036854775808) ∧ y.x.To.Key.size <= maxLen
open Go Go.Proofs.YtjjchpaomgmmdaaGreat.V Go.Proofs.YtjjchpaomgmmdaaGreat.V.M
section
variable {α : Type} {key : α -> Cel}
theorem sortK_irr {S : List α} (hs : SortK key S) : S.Pairwise (· ≠ ·) := hs.imp fun h e => by subst e; rw [cC_self] at h; cases h
theorem sortK_ext : ∀ {A B : List α}, SortK key A -> SortK key B -> (∀ x, x ∈ A ↔ x ∈ B) -> A = B
  | [], [], _, _, _ => rfl
  | [], b :: B, _, _, h => by have := (h b).2 (List.mem_cons_self ..); cases this
  | a :: A, [], _, _, h => by have := (h a).1 (List.mem_cons_self ..); cases this
  | a :: A, b :: B, ha, hb, h => by
    have ha' := List.pairwise_cons.1 ha
    have hb' := List.pairwise_cons.1 hb
    have hab : a = b := by
      rcases List.mem_cons.1 ((h a).1 (List.mem_cons_self ..)) with h1 | h1
      · exact h1
      · rcases List.mem_cons.1 ((h b).2 (List.mem_cons_self ..)) with h2 | h2
        · exact h2.symm
        · have e1 := hb'.1 a h1
          have e2 := ha'.1 b h2
          rw [cC_anti, e2] at e1; cases e1
    subst hab
    have hA : a ∉ A := fun hm => by have := ha'.1 a hm; rw [cC_self] at this; cases this
    have hB : a ∉ B := fun hm => by have := hb'.1 a hm; rw [cC_self] at this; cases this
    rw [sortK_ext ha'.2 hb'.2 fun x => ⟨fun hx => ?_, fun hx => ?_⟩]
    · rcases List.mem_cons.1 ((h x).1 (List.mem_cons_of_mem _ hx)) with h1 | h1
      · subst h1; exact absurd hx hA
      · exact h1
    · rcases List.mem_cons.1 ((h x).2 (List.mem_cons_of_mem _ hx)) with h1 | h1
      · subst h1; exact absurd hx hB
      · exact h1
end
def rt (n : Nat) (c : Cel) : Nat := hashM c.Key % n
theorem rt_lt {n : Nat} (h : 0 < n) (c : Cel) : rt n c < n := Nat.mod_lt _ h
def partS (n k : Nat) (S : SL) : SL := S.filter fun x => decide (rt n x.1 = k)
theorem part_mem {n k : Nat} {S : SL} {x : Cel × List Ver} : x ∈ partS n k S ↔ x ∈ S ∧ rt n x.1 = k := by unfold partS; rw [List.mem_filter]; simp
theorem part_ok {n k : Nat} {S : SL} (h : SOk S) : SOk (partS n k S) := ⟨List.Pairwise.filter _ h.sort, fun x hx => h.ok x (part_mem.1 hx).1⟩
theorem sort_setS {S : SL} (h : SortS S) (c : Cel) (vs : List Ver) : SortS (setS S c vs) := sort_set (key := fun x : Cel × List Ver => x.1) h
theorem part_set {n k : Nat} {S : SL} (h : SortS S) (c : Cel) (vs : List Ver) : partS n k (setS S c vs) = if rt n c = k then setS (partS n k S) c vs else partS n k S := by
  have hp : SortS (partS n k S) := List.Pairwise.filter _ h
  have hq : SortS (partS n k (setS S c vs)) := List.Pairwise.filter _ (sort_setS h c vs)
  have hm : ∀ x, x ∈ partS n k (setS S c vs) ↔ (x = (c, vs) ∨ (x ∈ S ∧ x.1 ≠ c)) ∧ rt n x.1 = k := fun x => by rw [part_mem, mem_set (key := fun x : Cel × List Ver => x.1) h]
  split
  · rename_i hc
    refine sortK_ext (key := fun x : Cel × List Ver => x.1) hq (sort_setS hp c vs) fun x => ?_
    rw [hm, mem_set (key := fun x : Cel × List Ver => x.1) hp, part_mem]
    constructor
    · rintro ⟨h1 | h1, h2⟩
      · exact .inl h1
      · exact .inr ⟨⟨h1.1, h2⟩, h1.2⟩
    · rintro (h1 | h1)
      · subst h1; exact ⟨.inl rfl, hc⟩
      · exact ⟨.inr ⟨h1.1.1, h1.2⟩, h1.1.2⟩
  · rename_i hc
    refine sortK_ext (key := fun x : Cel × List Ver => x.1) hq hp fun x => ?_
    rw [hm, part_mem]
    constructor
    · rintro ⟨h1 | h1, h2⟩
      · subst h1; exact absurd h2 hc
      · exact ⟨h1.1, h2⟩
    · rintro ⟨h1, h2⟩
      exact ⟨.inr ⟨h1, fun e => hc (by rw [← e]; exact h2)⟩, h2⟩
theorem part_get {n : Nat} {S : SL} (c : Cel) : getS (partS n (rt n c) S) c = getS S c := by
  unfold getS getK partS
  rw [List.find?_filter]
  congr 2
  funext x
  by_cases h : cmpC x.1 c = 0
  · have := cC_zero.1 h
    simp [this, cC_self]
  · simp [h]
theorem part_at {n : Nat} {S : SL} (c : Cel) (e : Int) : atS (partS n (rt n c) S) c e = atS S c e := by unfold atS; rw [part_get]
theorem part_kill {n : Nat} {S : SL} (c : Cel) (e : Int) : killE (partS n (rt n c) S) e c = killE S e c := by unfold killE; rw [part_get]
theorem part_range {n k : Nat} {S : SL} (e : Int) (fr to : Cel) : rangeS (partS n k S) e fr to = (rangeS S e fr to).filter fun r => decide (rt n r.Cell = k) := by
  unfold rangeS partS
  rw [List.filter_map, List.filter_filter, List.filter_filter]
  congr 2
  funext x
  simp only [Function.comp, rowS]
  exact Bool.and_comm _ _
abbrev SortR (X : List S_api_Row) : Prop := SortK (fun r : S_api_Row => r.Cell) X
theorem range_sort {S : SL} (h : SOk S) (e : Int) (fr to : Cel) : SortR (rangeS S e fr to) := by
  unfold rangeS SortR SortK
  rw [List.pairwise_map]
  exact List.Pairwise.filter _ h.sort
theorem take_filter {α : Type} {X : List α} {m : Nat} {q : α -> Bool} {x : α} (hx : x ∈ X.take m) (hq : q x = true) : x ∈ (X.filter q).take m := by
  have e : X.filter q = (X.take m).filter q ++ (X.drop m).filter q := by rw [← List.filter_append, List.take_append_drop]
  rw [e, List.take_append]
  refine List.mem_append_left _ ?_
  rw [List.take_of_length_le (Nat.le_trans (List.length_filter_le _ _) (by rw [List.length_take]; omega))]
  exact List.mem_filter.2 ⟨hx, hq⟩
theorem filter_take {α : Type} {X : List α} {m : Nat} {p : α -> Bool} (h : ∀ x ∈ X.take m, p x = true) : (X.filter p).take m = X.take m := by
  have e : X.filter p = X.take m ++ (X.drop m).filter p := by
    conv => lhs; rw [← List.take_append_drop m X, List.filter_append]
    rw [List.filter_eq_self.2 h]
  rw [e, List.take_append]
  by_cases hm : m <= X.length
  · rw [show m - (X.take m).length = 0 by rw [List.length_take]; omega, List.take_zero, List.append_nil, List.take_take, Nat.min_self]
  · rw [List.drop_eq_nil_of_le (by omega), List.filter_nil, List.take_nil, List.append_nil, List.take_take, Nat.min_self]
theorem mAll_mem {Ls : List (List S_api_Row)} {x : S_api_Row} : x ∈ mR Ls ↔ ∃ l ∈ Ls, x ∈ l := by
  unfold mR mAll
  induction Ls with
  | nil => simp
  | cons l Ls ih => rw [List.foldr_cons, List.mem_merge, ih]; simp
theorem leC_trans (a b c : S_api_Row) (h1 : leC a b = true) (h2 : leC b c = true) : leC a c = true := by
  unfold leC at *
  exact decide_eq_true (cC_le_trans (of_decide_eq_true h1) (of_decide_eq_true h2))
theorem leC_total (a b : S_api_Row) : (leC a b || leC b a) = true := by
  unfold leC
  have := cC_anti a.Cell b.Cell
  have := cC_range a.Cell b.Cell
  simp only [Bool.or_eq_true, decide_eq_true_eq]
  omega
theorem mAll_le {Ls : List (List S_api_Row)} (h : ∀ l ∈ Ls, l.Pairwise fun a b => leC a b = true) : (mR Ls).Pairwise fun a b => leC a b = true := by
  unfold mR mAll
  induction Ls with
  | nil => simp
  | cons l Ls ih =>
    rw [List.foldr_cons]
    exact List.pairwise_merge leC_trans leC_total _ _ (h l (List.mem_cons_self ..)) (ih fun x hx => h x (List.mem_cons_of_mem _ hx))
theorem mAll_perm : ∀ Ls : List (List S_api_Row), (mR Ls).Perm Ls.flatten
  | [] => .refl _
  | l :: Ls => by
    unfold mR mAll
    rw [List.foldr_cons, List.flatten_cons]
    exact (List.merge_perm_append leC).trans ((mAll_perm Ls).append_left l)
theorem sort_le {X : List S_api_Row} (h : SortR X) : X.Pairwise fun a b => leC a b = true := h.imp fun hh => by unfold leC; rw [hh]; rfl
theorem scan_law {X : List S_api_Row} (hX : SortR X) {n : Nat} (hn : 0 < n) (m : Nat) : (mR ((List.range n).map fun k => (X.filter fun r => decide (rt n r.Cell = k)).take m)).take m = X.take m := by
  classical
  generalize hL : ((List.range n).map fun k => (X.filter fun r => decide (rt n r.Cell = k)).take m) = Ls
  have hmem : ∀ x, x ∈ mR Ls ↔ ∃ k, k < n ∧ x ∈ (X.filter fun r => decide (rt n r.Cell = k)).take m := fun x => by
    rw [mAll_mem, ← hL]
    constructor
    · rintro ⟨l, hl, hx⟩
      obtain ⟨k, hk, rfl⟩ := List.mem_map.1 hl
      exact ⟨k, List.mem_range.1 hk, hx⟩
    · rintro ⟨k, hk, hx⟩
      exact ⟨_, List.mem_map.2 ⟨k, List.mem_range.2 hk, rfl⟩, hx⟩
  have sub : ∀ x, x ∈ mR Ls -> x ∈ X := fun x hx => by
    obtain ⟨k, _, hk⟩ := (hmem x).1 hx
    exact (List.mem_filter.1 (List.mem_of_mem_take hk)).1
  -- nothing stands in it twice
  have nd : (mR Ls).Nodup := by
    refine (mAll_perm Ls).nodup_iff.2 ?_
    unfold List.Nodup
    rw [List.pairwise_flatten]
    refine ⟨fun l hl => ?_, ?_⟩
    · rw [← hL] at hl
      obtain ⟨k, _, rfl⟩ := List.mem_map.1 hl
      exact List.Pairwise.sublist ((List.take_sublist _ _).trans List.filter_sublist) (sortK_irr hX)
    · rw [← hL, List.pairwise_map]
      refine List.Pairwise.imp ?_ List.nodup_range
      intro a b hab
      refine fun x h1 y h2 he => hab ?_
      subst he
      have h1 := (List.mem_filter.1 (List.mem_of_mem_take h1)).2
      have h2 := (List.mem_filter.1 (List.mem_of_mem_take h2)).2
      rw [decide_eq_true_eq] at h1 h2
      rw [← h1, ← h2]
  have inj : ∀ a b, a ∈ X -> b ∈ X -> a.Cell = b.Cell -> a = b := fun a b ha hb he => by
    have h1 := getK_mem (key := fun r : S_api_Row => r.Cell) hX ha
    have h2 := getK_mem (key := fun r : S_api_Row => r.Cell) hX hb
    rw [he] at h1
    rw [h1] at h2
    exact Option.some.inj h2
  have srt : SortR (mR Ls) := by
    have h1 : (mR Ls).Pairwise fun a b => leC a b = true := mAll_le fun l hl => by
      rw [← hL] at hl
      obtain ⟨k, _, rfl⟩ := List.mem_map.1 hl
      exact List.Pairwise.sublist ((List.take_sublist _ _).trans List.filter_sublist) (sort_le hX)
    have h2 := List.Pairwise.and h1 nd
    refine h2.imp_of_mem ?_
    intro a b ha hb ⟨hl, hne⟩
    have hl : cmpC a.Cell b.Cell <= 0 := of_decide_eq_true hl
    rcases cC_range a.Cell b.Cell with h | h | h
    · exact h
    · exact absurd (inj a b (sub a ha) (sub b hb) (cC_zero.1 h)) hne
    · omega
  have hf : mR Ls = X.filter fun r => decide (r ∈ mR Ls) := by
    refine sortK_ext (key := fun r : S_api_Row => r.Cell) srt (List.Pairwise.filter _ hX) fun x => ?_
    rw [List.mem_filter, decide_eq_true_eq]
    exact ⟨fun h => ⟨sub x h, h⟩, fun h => h.2⟩
  rw [hf]
  refine filter_take fun x hx => decide_eq_true ((hmem x).2 ⟨rt n x.Cell, rt_lt hn _, take_filter hx (decide_eq_true rfl)⟩)
theorem sum_zero {f : Nat -> Nat} : ∀ n, (∀ k, k < n -> f k = 0) -> ((List.range n).map f).sum = 0
  | 0, _ => rfl
  | n + 1, h => by rw [List.range_succ, List.map_append, List.sum_append, sum_zero n fun k hk => h k (by omega)]; simp [h n (by omega)]
theorem sum_one {f g : Nat -> Nat} {j d : Nat} : ∀ n, (∀ k, k < n -> f k = g k + if k = j then d else 0) -> j < n -> ((List.range n).map f).sum = ((List.range n).map g).sum + d
  | 0, _, h => by omega
  | n + 1, h, hj => by
    rw [List.range_succ, List.map_append, List.sum_append, List.map_append, List.sum_append]
    by_cases hn : j < n
    · rw [sum_one n (fun k hk => h k (by omega)) hn]
      have := h n (by omega)
      rw [if_neg (by omega)] at this
      simp [this]; omega
    · have hjn : j = n := by omega
      have e : (List.range n).map f = (List.range n).map g := List.map_congr_left fun k hk => by
        have hk := List.mem_range.1 hk
        rw [h k (by omega), if_neg (by omega)]; rfl
      have := h n (by omega)
      rw [if_pos hjn.symm] at this
      simp [e, this]; omega
theorem part_cons {n k : Nat} {x : Cel × List Ver} {S : SL} : partS n k (x :: S) = if rt n x.1 = k then x :: partS n k S else partS n k S := by
  unfold partS; rw [List.filter_cons]
  by_cases h : rt n x.1 = k <;> simp [h]
theorem sum_parts {n : Nat} (hn : 0 < n) (f : Cel × List Ver -> Nat) : ∀ S : SL, ((List.range n).map fun k => ((partS n k S).map f).sum).sum = (S.map f).sum
  | [] => sum_zero n fun k _ => rfl
  | x :: S => by
    rw [sum_one (g := fun k => ((partS n k S).map f).sum) (j := rt n x.1) (d := f x) n (fun k hk => ?_) (rt_lt hn _), sum_parts hn f S, List.map_cons, List.sum_cons]
    · omega
    · show ((partS n k (x :: S)).map f).sum = ((partS n k S).map f).sum + if k = rt n x.1 then f x else 0
      rw [part_cons]
      by_cases h : rt n x.1 = k
      · rw [if_pos h, if_pos h.symm, List.map_cons, List.sum_cons]; omega
      · rw [if_neg h, if_neg (fun e => h e.symm)]; rfl
theorem units_parts {n : Nat} (hn : 0 < n) (S : SL) : ((List.range n).map fun k => unitsS (partS n k S)).sum = unitsS S := sum_parts hn _ S
theorem there_parts {n : Nat} (hn : 0 < n) (S : SL) : ((List.range n).map fun k => thereS (partS n k S)).sum = thereS S := sum_parts hn _ S
theorem fmax_le : ∀ (L : List Nat) (a b : Nat), L.foldl max a <= b ↔ a <= b ∧ ∀ x ∈ L, x <= b
  | [], a, b => by simp
  | y :: L, a, b => by
    rw [List.foldl_cons, fmax_le L (max a y) b]
    simp only [List.mem_cons, forall_eq_or_imp]
    rw [Nat.max_le, and_assoc]
theorem maxL_le {L : List Nat} {b : Nat} : maxL L <= b ↔ ∀ x ∈ L, x <= b := by
  unfold maxL; rw [fmax_le]; simp
theorem most_parts {n : Nat} (hn : 0 < n) (S : SL) : maxL ((List.range n).map fun k => mostS (partS n k S)) = mostS S := by
  have key : ∀ b, maxL ((List.range n).map fun k => mostS (partS n k S)) <= b ↔ mostS S <= b := fun b => by
    unfold mostS
    rw [maxL_le, maxL_le]
    constructor
    · intro h x hx
      obtain ⟨y, hy, rfl⟩ := List.mem_map.1 hx
      have := maxL_le.1 (h _ (List.mem_map.2 ⟨rt n y.1, List.mem_range.2 (rt_lt hn _), rfl⟩)) y.2.length (List.mem_map.2 ⟨y, part_mem.2 ⟨hy, rfl⟩, rfl⟩)
      exact this
    · intro h x hx
      obtain ⟨k, hk, rfl⟩ := List.mem_map.1 hx
      exact maxL_le.2 fun z hz => by
        obtain ⟨y, hy, rfl⟩ := List.mem_map.1 hz
        exact h _ (List.mem_map.2 ⟨y, (part_mem.1 hy).1, rfl⟩)
  exact Nat.le_antisymm ((key _).2 (Nat.le_refl _)) ((key _).1 (Nat.le_refl _))
end Go.Proofs.YtjjchpaomgmmdaaGreat.V.S
namespace Go.Proofs.YtjjchpaomgmmdaaGreat.V
open Go
set_option linter.unusedVariables false
set_option linter.unusedSimpArgs false
section
variable {T : Type} {P : Program} {enc : TypeId × Value -> T} {w : World} {base : Nat} {spare : Nat -> Bool} {held : Bool} {fuel : Nat}
theorem cells_of {a : Addr} {n : Nat} {cs : List Value} (h : w.cells? base a n = some cs) : cs.length = n ∧ ∀ j v, cs[j]? = some v -> w.cell? (a.add j) = some v := by
  obtain ⟨h1, h2, h3⟩ := World.cells?_some h
  refine ⟨h2, fun j v hv => ?_⟩
  have hj : j < n := by rw [← h2]; exact (List.getElem?_eq_some_iff.1 hv).1
  rw [h3 j hj, hv]
theorem open_slice {t e : TypeId} {k : Nat} {v : Value} {x : DataW T × List MemPlace} (G : List Value -> Prop) (ht : P.underlying t = some (.slice e)) (hk : P.cellsOf e = k) (hk0 : 0 < k) (h : DataW.trod enc P w base spare held fuel t [v] = some x)
    (hG : ∀ n cs y, DataW.trod enc P w base spare held n e cs = some y -> cs.length = k -> G cs) :
    ∃ s : Sl, v = s.enc ∧ s.len <= s.cap ∧ s.cap <= maxLen ∧ ∃ CS : List (List Value), CS.length = s.len ∧ (∀ c ∈ CS, c.length = k ∧ G c) ∧ Reads w.heap s k CS.flatten ∧ (CS ≠ [] -> ∀ b, s.blk = some b -> b < w.heap.size) := by
  rcases DataW.trod_slice ht h with ⟨h0, _⟩ | ⟨a, len, cap, elems, rest, n, _, h0, _, hb, hl, hm, hlen, hel, _, _⟩
  · simp at h0; subst h0
    exact ⟨⟨none, 0, 0⟩, rfl, Nat.le_refl _, Nat.zero_le _, [], rfl, (fun c hc => by cases hc), ⟨by simp, fun _ => ⟨rfl, rfl⟩, fun i v hv => by simp at hv⟩, fun h => absurd rfl h⟩
  · simp at h0; subst h0
    rw [hk] at hel
    have each : ∀ i, i < len -> ∃ cs, w.cells? base (a.add (i * k)) k = some cs ∧ G cs := fun i hi => by
      have hx := hel i hi
      rw [List.getElem?_eq_getElem (by omega), Option.bind_eq_some_iff] at hx
      obtain ⟨cs, hc, ht'⟩ := hx
      exact ⟨cs, hc, hG _ _ _ ht' (cells_of hc).1⟩
    obtain ⟨CS, hCS, hall⟩ : ∃ CS : List (List Value), CS.length = len ∧ ∀ i c, CS[i]? = some c -> w.cells? base (a.add (i * k)) k = some c ∧ G c := by
      clear hel h
      have : ∀ m, m <= len -> ∃ CS : List (List Value), CS.length = m ∧ ∀ i c, CS[i]? = some c -> w.cells? base (a.add (i * k)) k = some c ∧ G c := fun m => by
        induction m with
        | zero => intro _; exact ⟨[], rfl, fun i c hc => by simp at hc⟩
        | succ m ih =>
          intro hm2
          obtain ⟨CS, h1, h2⟩ := ih (by omega)
          obtain ⟨c, h3, h4⟩ := each m (by omega)
          refine ⟨CS ++ [c], by simp [h1], fun i d hd => ?_⟩
          by_cases hi : i < CS.length
          · rw [List.getElem?_append_left hi] at hd; exact h2 i d hd
          · rw [List.getElem?_append_right (by omega)] at hd
            have hi2 : i - CS.length = 0 := by
              have := (List.getElem?_eq_some_iff.1 hd).1
              simp at this; omega
            rw [hi2] at hd; simp at hd; subst hd
            have : i = m := by omega
            subst this; exact ⟨h3, h4⟩
      exact this len (Nat.le_refl _)
    have hlen' : ∀ c ∈ CS, c.length = k ∧ G c := fun c hc => by
      obtain ⟨i, hi⟩ := List.mem_iff_getElem?.1 hc
      exact ⟨(cells_of (hall i c hi).1).1, (hall i c hi).2⟩
    have hspot : 0 < len -> a.spot = none ∧ a.block < w.heap.size := fun h0 => by
      obtain ⟨c, hc⟩ : ∃ c, CS[0]? = some c := ⟨_, List.getElem?_eq_getElem (by omega)⟩
      obtain ⟨h1, h2⟩ := cells_of (hall 0 c hc).1
      obtain ⟨v, hv⟩ : ∃ v, c[0]? = some v := ⟨_, List.getElem?_eq_getElem (by omega)⟩
      have hcell : cellH w.heap ((a.add (0 * k)).add 0) = some v := h2 0 v hv
      have e0 : ∀ p : Addr, p.add 0 = p := fun p => by unfold Addr.add; split <;> simp_all
      rw [Nat.zero_mul, e0, e0] at hcell
      unfold cellH at hcell
      split at hcell
      · rename_i hh
        refine ⟨?_, (Array.getElem?_eq_some_iff.1 hh).1⟩
        cases hs : a.spot with
        | none => rfl
        | some s => rw [hs] at hcell; simp at hcell
      · cases hcell
    refine ⟨⟨some a, len, cap⟩, rfl, hl, hm, CS, hCS, hlen', ⟨?_, (fun h => by cases h), fun i v hv => ?_⟩, fun hne b hb => ?_⟩
    · rw [← hCS]
      have : ∀ (L : List (List Value)), (∀ c ∈ L, c.length = k) -> L.flatten.length = L.length * k := fun L => by
        induction L with
        | nil => intro _; simp
        | cons c r ih => intro hL; simp [hL c (by simp), ih fun c hc => hL c (List.mem_cons_of_mem _ hc), Nat.add_mul]; omega
      exact this CS fun c hc => (hlen' c hc).1
    · have : ∀ (L : List (List Value)) (m : Nat), (∀ c ∈ L, c.length = k) -> (∀ i c, L[i]? = some c -> ∀ j v, c[j]? = some v -> w.cell? (a.add ((m + i) * k + j)) = some v) -> ∀ i v, L.flatten[i]? = some v -> w.cell? (a.add (m * k + i)) = some v := fun L => by
        induction L with
        | nil => intro m _ _ i v hv; simp at hv
        | cons c r ih =>
          intro m hL hc i v hv
          have hcl := hL c (by simp)
          rw [List.flatten_cons] at hv
          by_cases hi : i < c.length
          · rw [List.getElem?_append_left hi] at hv
            exact hc 0 c rfl i v hv
          · rw [List.getElem?_append_right (by omega)] at hv
            have := ih (m + 1) (fun c hc => hL c (List.mem_cons_of_mem _ hc)) (fun i d hd j v hj => by
              have := hc (i + 1) d (by simpa using hd) j v hj
              rwa [show m + (i + 1) = m + 1 + i from by omega] at this) _ v hv
            rwa [show (m + 1) * k + (i - c.length) = m * k + i from by rw [Nat.add_mul]; omega] at this
      have hlt : 0 < len := by
        rcases Nat.eq_zero_or_pos len with h0 | h0
        · have : CS = [] := List.eq_nil_of_length_eq_zero (by omega)
          subst this; simp at hv
        · exact h0
      obtain ⟨hsp, _⟩ := hspot hlt
      refine ⟨a, rfl, hsp, ?_⟩
      have := this CS 0 (fun c hc => (hlen' c hc).1) (fun i c hc j v hj => by
        have h1 := (cells_of (hall i c hc).1).2 j v hj
        obtain ⟨ab, ao, asp⟩ := a
        simp only at hsp; subst hsp
        rw [add_lit, add_lit] at h1
        rw [add_lit, Nat.zero_add, ← Nat.add_assoc]; exact h1) i v hv
      rw [Nat.zero_mul, Nat.zero_add] at this
      exact this
    · simp [Sl.blk] at hb
      subst hb
      have : 0 < len := by
        rw [← hCS]; exact List.length_pos_iff.2 hne
      exact (hspot this).2
end
end Go.Proofs.YtjjchpaomgmmdaaGreat.V
namespace Go.Proofs.YtjjchpaomgmmdaaGreat.V.S
open Go Go.Proofs.YtjjchpaomgmmdaaGreat.V
set_option linter.unusedVariables false
set_option linter.unusedSimpArgs false
abbrev W64 (n : Int) : Prop := -9223372036854775808 <= n ∧ n < 9223372036854775808
abbrev CelOk (c : Cel) : Prop := W64 c.View ∧ W64 c.Start ∧ c.Key.size <= maxLen
section
variable {T : Type} {enc : TypeId × Value -> T} {w : World} {base : Nat} {spare : Nat -> Bool} {held : Bool} {fuel : Nat}
theorem gen_open {α : Type} (f : α -> List Value) (ok : α -> Prop) {t e : TypeId} {k : Nat} {v : Value} {y : DataW T × List MemPlace} (hf : ∀ x, (f x).length = k) (ht : PP.underlying t = some (.slice e)) (hk : PP.cellsOf e = k) (hk0 : 0 < k) (h : DataW.trod enc PP w base spare held fuel t [v] = some y)
    (hG : ∀ n cs y, DataW.trod enc PP w base spare held n e cs = some y -> cs.length = k -> ∃ x, cs = f x ∧ ok x) :
    ∃ (s : Sl) (L : List α), v = s.enc ∧ Reads w.heap s k (L.flatMap f) ∧ s.len <= s.cap ∧ (L ≠ [] -> ∀ b, s.blk = some b -> b < w.heap.size) ∧ (∀ x ∈ L, ok x) ∧ L.length <= 9223372036854775807 := by
  obtain ⟨s, h1, h2, h3, CS, h4, h5, h6, h7⟩ := open_slice (fun cs => ∃ x : α, cs = f x ∧ ok x) ht hk hk0 h fun n cs y hy hl => hG n cs y hy hl
  have : ∀ (L : List (List Value)), (∀ c ∈ L, c.length = k ∧ ∃ x : α, c = f x ∧ ok x) -> ∃ S : List α, L = S.map f ∧ ∀ x ∈ S, ok x := fun L => by
    induction L with
    | nil => intro _; exact ⟨[], rfl, fun n hn => by cases hn⟩
    | cons c r ih =>
      intro hL
      obtain ⟨E, h1, h2⟩ := ih fun c hc => hL c (List.mem_cons_of_mem _ hc)
      obtain ⟨_, n, rfl, hn⟩ := hL c (by simp)
      refine ⟨n :: E, by rw [h1]; rfl, fun m hm => ?_⟩
      rcases List.mem_cons.1 hm with e | e
      · subst e; exact hn
      · exact h2 m e
  obtain ⟨S, rfl, hS⟩ := this CS h5
  have hr : Reads w.heap s k (S.flatMap f) := by rw [List.flatMap_def]; exact h6
  refine ⟨s, S, h1, hr, h2, fun hn b hb => h7 (by simpa using hn) b hb, hS, ?_⟩
  have := rd_len hf hk0 hr
  simp only [maxLen] at h3; omega
theorem list4 {β : Type} : ∀ {l : List β}, l.length = 4 -> ∃ a b c d, l = [a, b, c, d]
  | [a, b, c, d], _ => ⟨a, b, c, d, rfl⟩
theorem agg_open {cs : List Value} {y : DataW T × List MemPlace} (h : DataW.trod enc PP w base spare held fuel tn_api_Agg cs = some y) (hl : cs.length = 4) : ∃ x : S_api_Agg, cs = x.cells ∧ W64 x.Count ∧ W64 x.Sum ∧ W64 x.Min ∧ W64 x.Max := by
  obtain ⟨xs, n, _, _, _, hlen, hf⟩ := DataW.trod_struct ut_api_Agg h
  have hlen4 : xs.length = 4 := hlen
  have k2 : PP.cellsOf 2 = 1 := by kernel_rfl
  obtain ⟨c0, c1, c2, c3, rfl⟩ := list4 hl
  obtain ⟨y0, y1, y2, y3, rfl⟩ := list4 hlen4
  have f0 : DataW.trod enc PP w base spare held n 2 (([c0, c1, c2, c3].drop 0).take (PP.cellsOf 2)) = some y0 := hf 0 _ rfl
  have f1 : DataW.trod enc PP w base spare held n 2 (([c0, c1, c2, c3].drop 1).take (PP.cellsOf 2)) = some y1 := hf 1 _ rfl
  have f2 : DataW.trod enc PP w base spare held n 2 (([c0, c1, c2, c3].drop 2).take (PP.cellsOf 2)) = some y2 := hf 2 _ rfl
  have f3 : DataW.trod enc PP w base spare held n 2 (([c0, c1, c2, c3].drop 3).take (PP.cellsOf 2)) = some y3 := hf 3 _ rfl
  rw [k2] at f0 f1 f2 f3
  simp only [List.drop_zero, List.drop_succ_cons, List.take_succ_cons, List.take_zero] at f0 f1 f2 f3
  obtain ⟨m0, e0, _, w0⟩ := DataW.trod_int Tryz.underlying2 f0
  obtain ⟨m1, e1, _, w1⟩ := DataW.trod_int Tryz.underlying2 f1
  obtain ⟨m2, e2, _, w2⟩ := DataW.trod_int Tryz.underlying2 f2
  obtain ⟨m3, e3, _, w3⟩ := DataW.trod_int Tryz.underlying2 f3
  simp only [List.cons.injEq, and_true] at e0 e1 e2 e3
  subst e0; subst e1; subst e2; subst e3
  exact ⟨⟨m0, m1, m2, m3⟩, rfl, i64_of w0, i64_of w1, i64_of w2, i64_of w3⟩
theorem list3 {β : Type} : ∀ {l : List β}, l.length = 3 -> ∃ a b c, l = [a, b, c]
  | [a, b, c], _ => ⟨a, b, c, rfl⟩
theorem cell_open {cs : List Value} {y : DataW T × List MemPlace} (h : DataW.trod enc PP w base spare held fuel tn_api_Cell cs = some y) (hl : cs.length = 3) :
    ∃ c : Cel, cs = c.cells ∧ CelOk c := by
  obtain ⟨xs, n, _, _, _, hlen, hf⟩ := DataW.trod_struct ut_api_Cell h
  have hlen3 : xs.length = 3 := hlen
  have k3 : PP.cellsOf 3 = 1 := by kernel_rfl
  have k9 : PP.cellsOf 9 = 1 := by kernel_rfl
  have k2 : PP.cellsOf 2 = 1 := by kernel_rfl
  obtain ⟨c0, c1, c2, rfl⟩ := list3 hl
  obtain ⟨y0, y1, y2, rfl⟩ := list3 hlen3
  have f0 : DataW.trod enc PP w base spare held n 3 (([c0, c1, c2].drop 0).take (PP.cellsOf 3)) = some y0 := hf 0 _ rfl
  have f1 : DataW.trod enc PP w base spare held n 9 (([c0, c1, c2].drop 1).take (PP.cellsOf 9)) = some y1 := hf 1 _ rfl
  have f2 : DataW.trod enc PP w base spare held n 2 (([c0, c1, c2].drop 2).take (PP.cellsOf 2)) = some y2 := hf 2 _ rfl
  rw [k3] at f0
  rw [k9] at f1
  rw [k2] at f2
  simp only [List.drop_zero, List.drop_succ_cons, List.take_succ_cons, List.take_zero] at f0 f1 f2
  obtain ⟨m0, e0, _, w0⟩ := DataW.trod_int Tryz.underlying3 f0
  obtain ⟨s1, e1, _, w1⟩ := DataW.trod_string Tryz.underlying9 f1
  obtain ⟨m2, e2, _, w2⟩ := DataW.trod_int Tryz.underlying2 f2
  simp only [List.cons.injEq, and_true] at e0 e1 e2
  subst e0; subst e1; subst e2
  exact ⟨⟨m0, s1, m2⟩, rfl, i64_of w0, i64_of w2, w1⟩
theorem ints_open {v : Value} {y : DataW T × List MemPlace} (h : DataW.trod enc PP w base spare held fuel tn_Slint [v] = some y) :
    ∃ (s : Sl) (L : List Int), v = s.enc ∧ Reads w.heap s 1 (L.flatMap cI) ∧ s.len <= s.cap ∧ (L ≠ [] -> ∀ b, s.blk = some b -> b < w.heap.size) ∧ (∀ x ∈ L, W64 x) ∧ L.length <= 9223372036854775807 :=
  gen_open cI W64 cI_len ut_Slint (show PP.cellsOf 3 = 1 from by kernel_rfl) (by omega) h fun n cs y hy _ => by
    obtain ⟨m, e1, _, e2⟩ := DataW.trod_int Tryz.underlying3 hy
    exact ⟨m, e1, i64_of e2⟩
theorem cells_open {v : Value} {y : DataW T × List MemPlace} (h : DataW.trod enc PP w base spare held fuel tn_Slapi_Cell [v] = some y) :
    ∃ (s : Sl) (L : List Cel), v = s.enc ∧ Reads w.heap s 3 (L.flatMap S_api_Cell.cells) ∧ s.len <= s.cap ∧ (L ≠ [] -> ∀ b, s.blk = some b -> b < w.heap.size) ∧ (∀ x ∈ L, CelOk x) ∧ L.length <= 9223372036854775807 :=
  gen_open S_api_Cell.cells CelOk (fun _ => rfl) ut_Slapi_Cell (show PP.cellsOf tn_api_Cell = 3 from by kernel_rfl) (by omega) h fun n cs y hy hl => cell_open hy hl
theorem list15 {β : Type} : ∀ {l : List β}, l.length = 15 -> ∃ c0 c1 c2 c3 c4 c5 c6 c7 c8 c9 c10 c11 c12 c13 c14, l = [c0, c1, c2, c3, c4, c5, c6, c7, c8, c9, c10, c11, c12, c13, c14]
  | [c0, c1, c2, c3, c4, c5, c6, c7, c8, c9, c10, c11, c12, c13, c14], _ => ⟨c0, c1, c2, c3, c4, c5, c6, c7, c8, c9, c10, c11, c12, c13, c14, rfl⟩
theorem list8 {β : Type} : ∀ {l : List β}, l.length = 8 -> ∃ a b c d e f g h, l = [a, b, c, d, e, f, g, h]
  | [a, b, c, d, e, f, g, h], _ => ⟨a, b, c, d, e, f, g, h, rfl⟩
theorem step_open {cs : List Value} {y : DataW T × List MemPlace} (h : DataW.trod enc PP w base spare held fuel tn_spatelaw7_Step cs = some y) (hl : cs.length = 15) : ∃ x : St, cs = x.x.cells ∧ StOk w.heap x := by
  obtain ⟨xs, n, _, _, _, hlen, hf⟩ := DataW.trod_struct ut_spatelaw7_Step h
  have hlen8 : xs.length = 8 := hlen
  have k3 : PP.cellsOf 3 = 1 := by kernel_rfl
  have kc : PP.cellsOf tn_api_Cell = 3 := by kernel_rfl
  have ka : PP.cellsOf tn_api_Agg = 4 := by kernel_rfl
  have kl : PP.cellsOf tn_Slapi_Cell = 1 := by kernel_rfl
  have ki : PP.cellsOf tn_Slint = 1 := by kernel_rfl
  obtain ⟨c0, c1, c2, c3, c4, c5, c6, c7, c8, c9, c10, c11, c12, c13, c14, rfl⟩ := list15 hl
  obtain ⟨y0, y1, y2, y3, y4, y5, y6, y7, rfl⟩ := list8 hlen8
  have f0 : DataW.trod enc PP w base spare held n 3 (([c0, c1, c2, c3, c4, c5, c6, c7, c8, c9, c10, c11, c12, c13, c14].drop 0).take (PP.cellsOf 3)) = some y0 := hf 0 _ rfl
  rw [k3] at f0
  have f1 : DataW.trod enc PP w base spare held n 3 (([c0, c1, c2, c3, c4, c5, c6, c7, c8, c9, c10, c11, c12, c13, c14].drop 1).take (PP.cellsOf 3)) = some y1 := hf 1 _ rfl
  rw [k3] at f1
  have f2 : DataW.trod enc PP w base spare held n tn_api_Cell (([c0, c1, c2, c3, c4, c5, c6, c7, c8, c9, c10, c11, c12, c13, c14].drop 2).take (PP.cellsOf tn_api_Cell)) = some y2 := hf 2 _ rfl
  rw [kc] at f2
  have f3 : DataW.trod enc PP w base spare held n tn_api_Agg (([c0, c1, c2, c3, c4, c5, c6, c7, c8, c9, c10, c11, c12, c13, c14].drop 5).take (PP.cellsOf tn_api_Agg)) = some y3 := hf 3 _ rfl
  rw [ka] at f3
  have f4 : DataW.trod enc PP w base spare held n tn_Slapi_Cell (([c0, c1, c2, c3, c4, c5, c6, c7, c8, c9, c10, c11, c12, c13, c14].drop 9).take (PP.cellsOf tn_Slapi_Cell)) = some y4 := hf 4 _ rfl
  rw [kl] at f4
  have f5 : DataW.trod enc PP w base spare held n tn_Slint (([c0, c1, c2, c3, c4, c5, c6, c7, c8, c9, c10, c11, c12, c13, c14].drop 10).take (PP.cellsOf tn_Slint)) = some y5 := hf 5 _ rfl
  rw [ki] at f5
  have f6 : DataW.trod enc PP w base spare held n tn_api_Cell (([c0, c1, c2, c3, c4, c5, c6, c7, c8, c9, c10, c11, c12, c13, c14].drop 11).take (PP.cellsOf tn_api_Cell)) = some y6 := hf 6 _ rfl
  rw [kc] at f6
  have f7 : DataW.trod enc PP w base spare held n 3 (([c0, c1, c2, c3, c4, c5, c6, c7, c8, c9, c10, c11, c12, c13, c14].drop 14).take (PP.cellsOf 3)) = some y7 := hf 7 _ rfl
  rw [k3] at f7
  simp only [List.drop_zero, List.drop_succ_cons, List.take_succ_cons, List.take_zero] at f0 f1 f2 f3 f4 f5 f6 f7
  obtain ⟨m0, e0, _, w0⟩ := DataW.trod_int Tryz.underlying3 f0
  obtain ⟨m1, e1, _, w1⟩ := DataW.trod_int Tryz.underlying3 f1
  obtain ⟨x2, e2, w2⟩ := cell_open f2 rfl
  obtain ⟨x3, e3, w3⟩ := agg_open f3 rfl
  obtain ⟨s4, L4, e4, r4, _, b4, o4, _⟩ := cells_open f4
  obtain ⟨s5, L5, e5, r5, _, b5, o5, _⟩ := ints_open f5
  obtain ⟨x6, e6, w6⟩ := cell_open f6 rfl
  obtain ⟨m7, e7, _, w7⟩ := DataW.trod_int Tryz.underlying3 f7
  refine ⟨⟨⟨m0, m1, x2, x3, s4, s5, x6, m7⟩, L5, L4⟩, ?_, ⟨r5, b5, o5, r4, b4, o4, i64_of w0, i64_of w1, i64_of w7, w2, w3, w6⟩⟩
  have : [c0, c1, c2, c3, c4, c5, c6, c7, c8, c9, c10, c11, c12, c13, c14] = [c0] ++ [c1] ++ [c2, c3, c4] ++ [c5, c6, c7, c8] ++ [c9] ++ [c10] ++ [c11, c12, c13] ++ [c14] := rfl
  rw [this, e0, e1, e2, e3, e4, e5, e6, e7]; rfl
end
set_option maxRecDepth 20000
def cellM (n : Nat) : Cel := ⟨0, ⟨#[UInt8.ofNat (97 + n / 160000 % 20), UInt8.ofNat (97 + n / 8000 % 20), UInt8.ofNat (97 + n / 400 % 20), UInt8.ofNat (97 + n / 20 % 20)]⟩, ((n % 20 : Nat) : Int)⟩
theorem u8lt {x y : Nat} (hx : x < 20) (hy : y < 20) : (UInt8.ofNat (97 + x) < UInt8.ofNat (97 + y)) ↔ x < y := by
  rw [UInt8.lt_iff_toNat_lt]
  simp
  omega
theorem cb_lt {x y : Nat} (hx : x < 20) (hy : y < 20) (h : x < y) (A B : List UInt8) : Lib.compareBytes (UInt8.ofNat (97 + x) :: A) (UInt8.ofNat (97 + y) :: B) = -1 := by
  simp only [Lib.compareBytes]
  rw [if_pos ((u8lt hx hy).2 h)]
theorem cb_eq {x y : Nat} (h : x = y) (A B : List UInt8) : Lib.compareBytes (UInt8.ofNat (97 + x) :: A) (UInt8.ofNat (97 + y) :: B) = Lib.compareBytes A B := by
  subst h
  simp only [Lib.compareBytes, u8_irr, if_false]
theorem cell_lt {a b : Nat} (h : a < b) (hb : b < 3200000) : cmpC (cellM a) (cellM b) = -1 := by
  rw [cC_lt]
  refine .inr ⟨rfl, ?_⟩
  show Lib.compareBytes [UInt8.ofNat (97 + a / 160000 % 20), UInt8.ofNat (97 + a / 8000 % 20), UInt8.ofNat (97 + a / 400 % 20), UInt8.ofNat (97 + a / 20 % 20)] [UInt8.ofNat (97 + b / 160000 % 20), UInt8.ofNat (97 + b / 8000 % 20), UInt8.ofNat (97 + b / 400 % 20), UInt8.ofNat (97 + b / 20 % 20)] = -1 ∨ ([UInt8.ofNat (97 + a / 160000 % 20), UInt8.ofNat (97 + a / 8000 % 20), UInt8.ofNat (97 + a / 400 % 20), UInt8.ofNat (97 + a / 20 % 20)] = [UInt8.ofNat (97 + b / 160000 % 20), UInt8.ofNat (97 + b / 8000 % 20), UInt8.ofNat (97 + b / 400 % 20), UInt8.ofNat (97 + b / 20 % 20)] ∧ ((a % 20 : Nat) : Int) < ((b % 20 : Nat) : Int))
  have ka := Nat.mod_lt (a / 160000) (show 20 > 0 by omega)
  by_cases e1 : a / 160000 % 20 = b / 160000 % 20
  · rw [cb_eq e1]
    by_cases e2 : a / 8000 % 20 = b / 8000 % 20
    · rw [cb_eq e2]
      by_cases e3 : a / 400 % 20 = b / 400 % 20
      · rw [cb_eq e3]
        by_cases e4 : a / 20 % 20 = b / 20 % 20
        · rw [e1, e2, e3, e4]; exact .inr ⟨rfl, by omega⟩
        · exact .inl (cb_lt (by omega) (by omega) (by omega) _ _)
      · exact .inl (cb_lt (by omega) (by omega) (by omega) _ _)
    · exact .inl (cb_lt (by omega) (by omega) (by omega) _ _)
  · exact .inl (cb_lt (by omega) (by omega) (by omega) _ _)
theorem row_cell {h : H} {a : Addr} {x : Rw} (c : Cells h a (cW x)) : Cells h (a.add 0) x.Cell.cells := fun i v hv => by
  have hi : i < 3 := (List.getElem?_eq_some_iff.1 hv).1
  have := c i v (by
    match i, hi, hv with
    | 0, _, hv => exact hv
    | 1, _, hv => exact hv
    | 2, _, hv => exact hv)
  have e : (a.add 0).add i = a.add i := by simp [Addr.add]
  rw [e]; exact this
end Go.Proofs.YtjjchpaomgmmdaaGreat.V.S
namespace Go.Proofs.YtjjchpaomgmmdaaGreat.V
open Go
set_option linter.unusedVariables false
set_option linter.unusedSimpArgs false
abbrev cS8 (s : Sl) : List Value := [s.enc]
theorem cS8_len (s : Sl) : (cS8 s).length = 1 := rfl
theorem own_typ {h h' : H} {s r : Sl} {e e' : TypeId} {k k' : Nat} {cs ds : List Value} (w : Owns h r e k cs) (o : Only (fun b => s.blk = some b) h h') (ws : Owns h s e' k' ds) (he : e ≠ e') : Owns h' r e k cs := w.only o fun y hy hb => by
  obtain ⟨_, ⟨q1, q2, q3⟩ | ⟨b', c', q1, q2, _⟩⟩ := w
  · simp [Sl.blk, q1] at hy
  · simp [Sl.blk, q1] at hy
    subst hy
    exact own_neG ws q2 (fun e => he e.symm) hb
section
variable {α : Type} {f : α -> List Value} {kk : Nat} {e : TypeId} {base h h' : H} {Z : List (Sl × List α)}
end
end Go.Proofs.YtjjchpaomgmmdaaGreat.V
namespace Go.Proofs.YtjjchpaomgmmdaaGreat.V.S
open Go Go.Proofs.YtjjchpaomgmmdaaGreat.V
set_option linter.unusedVariables false
set_option linter.unusedSimpArgs false
set_option maxRecDepth 20000
theorem SH.turn {h : H} {n : Nat} {S : SL} {slots : Nat} {R R' : Nat -> Prop} (s : SH h n S slots R) (hr : ∀ b, b < h.size -> R b -> R' b) : SH h n S slots R' := by
  obtain ⟨tn, rs, es, T, Z, hZ, z⟩ := s
  exact ⟨tn, rs, es, T, Z, hZ, z.turn (fun r hr h => h) hr⟩
theorem own_nsh {h : H} {t : Sl} {e : TypeId} {k : Nat} {cs : List Value} (w : Owns h t e k cs) (he : ¬ ShE e) {b : Nat} (hb : t.blk = some b) : ¬ ShTy h b := by
  obtain ⟨_, ⟨q1, _, _⟩ | ⟨b', c', q1, q2, _⟩⟩ := w
  · simp [Sl.blk, q1] at hb
  · simp [Sl.blk, q1] at hb
    subst hb
    exact not_sh q2 he
theorem nb {b : Bool} (h : b = true) {P : Prop} : (!b) = true -> P := fun g => by subst h; cases g
end Go.Proofs.YtjjchpaomgmmdaaGreat.V.S
