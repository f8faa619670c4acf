/- What the engine says of makings, effects and calls is so. No condition. -/
import Derived.Test.YteeplplddlkedaaGreatDoorEB
import Derived.Lib.UnsafeStr
import Derived.Calls
/- What makes one new block. -/
namespace Eng
open Go

theorem range0 {α : Type} (g : Nat → α) : (Array.range 0).map g = #[] := by simp
theorem repL_length {α : Type} (l : List α) : ∀ n, (repL l n).length = n * l.length
  | 0 => by simp [repL]
  | n + 1 => by simp [repL, repL_length l n, Nat.add_mul, Nat.add_comm]
theorem repL_get {α : Type} (l : List α) : ∀ (n i : Nat), i < n * l.length → (repL l n)[i]? = l[i % l.length]?
  | 0, i, h => by simp at h
  | n + 1, i, h => by
    show (l ++ repL l n)[i]? = _
    rw [List.getElem?_append]
    split
    · rw [Nat.mod_eq_of_lt (by assumption)]
    · rename_i h1
      have hm : (n + 1) * l.length = n * l.length + l.length := by rw [Nat.add_mul, Nat.one_mul]
      rw [repL_get l n (i - l.length) (by omega)]
      congr 1
      exact (Nat.mod_eq_sub_mod (by omega)).symm
theorem VRL.rep {S : Sym} {φ : Mp} {vs : List V} {ws : List Value} (h : VRL S φ vs ws) : ∀ n, VRL S φ (repL vs n) (repL ws n)
  | 0 => VRL.nil
  | n + 1 => h.append (h.rep n)
theorem rep_map (z : Array Value) (n : Nat) : ((Array.range (n * z.size)).map (fun i => z[i % z.size]!)).toList = repL z.toList n := by
  apply List.ext_getElem?
  intro i
  by_cases hi : i < n * z.size
  · have hz : 0 < z.size := by
      rcases Nat.eq_zero_or_pos z.size with h | h
      · rw [h] at hi; omega
      · exact h
    rw [repL_get z.toList n i (by simpa using hi)]
    have hm : i % z.size < z.size := Nat.mod_lt _ hz
    simp [hi, hm]
  · rw [List.getElem?_eq_none (by simp; omega), List.getElem?_eq_none (by rw [repL_length]; simp; omega)]

def esOf (ty : Nat → Option TI) (e : Nat) : Nat := match ty e with
  | some ti => ti.size
  | none => 0
theorem esOf_eq {ty : Nat → Option TI} {e : Nat} {ti : TI} (h : ty e = some ti) : esOf ty e = ti.size := by simp [esOf, h]

section
variable {P : Program} {S : Sym} {ty : Nat → Option TI} {φ : Mp} {h : H} {W : World} {f : FT} {l : List V}
variable {v : V} {x y z : Ev} {wx wy wz : Value}

theorem ofL_at (l : List V) (j : Nat) : (T.ofL l).get j = l[j]? := by
  rw [T.ofL_get]
theorem row_at {cs : List V} {arr : Array Value} {e c : Nat} {o : Eng.Obj} (hc : VRL S φ cs arr.toList) (hr : rowObj e cs = some o) : OAt S ty φ o ⟨c, arr.size, esOf ty e⟩ (.cells arr e) := by
  unfold rowObj at hr
  rw [fN_eq, T.fc_eq, lenL_zero] at hr
  cases hr
  have hl := hc.length
  rw [Array.length_toList] at hl
  refine ⟨arr, 0, 0, rfl, rfl, by show cs.length ≤ arr.size; omega, fun ti h => esOf_eq h, fun i v hv => ?_, fun j _ h => by omega, Nat.le_refl _⟩
  rw [ofL_at] at hv
  obtain ⟨w, h1, h2⟩ := hc.get hv
  refine ⟨?_, w, by rw [← Array.getElem?_toList]; exact h1, h2⟩
  rcases Nat.lt_or_ge i cs.length with h' | h'
  · exact h'
  · simp [List.getElem?_eq_none h'] at hv
/-- A pointer to where a new block lies. -/
theorem VR.newPtr {b : Nat} {L : Loc} (hb : φ b = some L) : VR S φ (mkP b) (.pointer (some ⟨L.c, 0, none⟩)) := VR.mkPtr hb
theorem VR.newSlc {b n m : Nat} {L : Loc} (hb : φ b = some L) (h1 : n ≤ m) (h2 : m < 2 ^ 63) : VR S φ (.slc b 0 n m true) (.slice (some ⟨L.c, 0, none⟩) n m) := by
  unfold VR; exact ⟨L, _, m, hb, rfl, h1, h2, rfl, rfl, .inr rfl, by simp⟩

theorem aAlloc_run {e : Nat} {ti : TI} {i d zz} (ht : TiOK P e ti i d zz) : (Instr.alloc e true (.tuple #[])).run P W = .ok (.pointer (some ⟨W.heap.size, 0, none⟩)) { W with heap := W.heap.push (.cells zz.cells e) } := by
  simp [Instr.alloc, ht.run_zero, newVar, Go.newRow]
theorem aAlloc_rel {e : Nat} {ti : TI} {i d zz} (ht : TiOK P e ti i d zz) {o : Eng.Obj} {mk : Nat → V} (hr : aAlloc e ti.zero.cells f l = some (o, mk)) {c b : Nat} (hb : φ b = some ⟨c, zz.cells.size, esOf ty e⟩) :
    OAt S ty φ o ⟨c, zz.cells.size, esOf ty e⟩ (.cells zz.cells e) ∧ VR S φ (mk b) (.pointer (some ⟨c, 0, none⟩)) := by
  obtain ⟨o', h1, hr⟩ := ob_eq.1 hr
  cases hr
  exact ⟨row_at ((ht.vr S φ).cells ht.any) h1, VR.newPtr hb⟩
theorem aBox_run {e : Nat} : (Instr.box e wx).run P W = .ok (.pointer (some ⟨W.heap.size, 0, none⟩)) { W with heap := W.heap.push (.cells wx.cells e) } := by
  simp [Instr.box, newVar, Go.newRow]
theorem aBox_rel {e : Nat} (hx : EvR S φ f l x wx) {o : Eng.Obj} {mk : Nat → V} (hr : aBox e x f l = some (o, mk)) {c b : Nat} (hb : φ b = some ⟨c, wx.cells.size, esOf ty e⟩) :
    OAt S ty φ o ⟨c, wx.cells.size, esOf ty e⟩ (.cells wx.cells e) ∧ VR S φ (mk b) (.pointer (some ⟨c, 0, none⟩)) := by
  obtain ⟨va, h1, hr⟩ := ob_eq.1 hr
  cases ha : va.isAny with
  | true =>
    rw [ha] at hr; cases hr
    refine ⟨⟨wx.cells, 0, 0, rfl, rfl, Nat.zero_le _, fun ti h => esOf_eq h, fun i v hv => ?_, fun j _ h => by omega, Nat.le_refl _⟩, VR.newPtr hb⟩
    rw [T.get_nil] at hv; cases hv
  | false =>
    rw [ha] at hr
    obtain ⟨o', h2, hr⟩ := ob_eq.1 hr
    cases hr
    exact ⟨row_at ((hx _ h1).cells ha) h2, VR.newPtr hb⟩
theorem aMkMap_run {t : Nat} : (Instr.makeMap t none).run P W = .ok (.map (some W.heap.size)) { W with heap := W.heap.push (.map #[] 0) } := by
  simp [Instr.makeMap]
theorem aMkMap_rel {o : Eng.Obj} {mk : Nat → V} (hr : aMkMap f l = some (o, mk)) {c b t s : Nat} (hb : φ b = some ⟨c, t, s⟩) :
    OAt S ty φ o ⟨c, t, s⟩ (.map #[] 0) ∧ VR S φ (mk b) (.map (some c)) := by
  cases hr
  exact ⟨⟨#[], rfl, rfl⟩, by unfold VR; exact ⟨_, hb, rfl⟩⟩
theorem aRangeS_run {t : Nat} {ti : TI} {i d zz} (ht : TiOK P t ti i d zz) (hk : ti.d = .str) {s : ByteArray} : (Instr.range t (.string s)).run P W = .ok (.pointer (some ⟨W.heap.size, 0, none⟩)) { W with heap := W.heap.push (.stringIter s 0) } := by
  have hd := ht.dr; rw [hk] at hd; simp only [DR] at hd; subst hd
  simp [Instr.range, ht.run_und]
theorem aRangeS_rel (hx : EvR S φ f l x wx) {o : Eng.Obj} {mk : Nat → V} (hr : aRangeS x f l = some (o, mk)) :
    ∃ s, wx = .string s ∧ ∀ {c b t u : Nat}, φ b = some ⟨c, t, u⟩ → OAt S ty φ o ⟨c, t, u⟩ (.stringIter s 0) ∧ VR S φ (mk b) (.pointer (some ⟨c, 0, none⟩)) := by
  obtain ⟨len, val, h1, hr⟩ := oStr hr
  cases hr
  obtain ⟨s, rfl, h2⟩ := (hx _ h1).str
  exact ⟨s, rfl, fun hb => ⟨⟨s, rfl, h2⟩, VR.newPtr hb⟩⟩
theorem aBSlice_run {t e len : Nat} {ti ei : TI} {i i' d d' zz z'} (ht : TiOK P t ti i d zz) (he : TiOK P e ei i' d' z') (hk : ti.d = .slc e) (hlen : (ei.size + 1) * len ≤ 16777216) {p : Fill} {ps : Array (Nat × Value)}
    (hp : FillR S φ f l (fun i => some (i * ei.size, ei.size)) p ps.toList) {o : Eng.Obj} {mk : Nat → V} (hr : aBSlice e len (repL ei.zero.cells len) p f l = some (o, mk)) :
    ∃ a', Instr.fill (fun i => some (i * ei.size, ei.size)) (repL z'.cells.toList len).toArray ps.toList = some a' ∧
      (Instr.buildSlice t len ps).run P W = .ok (.slice (some ⟨W.heap.size, 0, none⟩) len len) { W with heap := W.heap.push (.cells a' e) } := by
  obtain ⟨cs, h1, hr⟩ := ob_eq.1 hr
  have hd := ht.dr; rw [hk] at hd; simp only [DR] at hd; subst hd
  obtain ⟨a', h4, h5, _⟩ := hp _ _ (repL z'.cells.toList len).toArray (by simpa using ((he.vr S φ).cells he.any).rep len) h1
  refine ⟨a', h4, ?_⟩
  have hsz : ¬ (len * ei.size > 2 ^ 24) := by
    have : len * ei.size ≤ (ei.size + 1) * len := by rw [Nat.add_mul, Nat.mul_comm]; omega
    omega
  have hz := rep_map z'.cells len
  rw [he.zlen] at hz
  have hz2 : (Array.range (len * ei.size)).map (fun i => z'.cells[i % ei.size]!) = (repL z'.cells.toList len).toArray := by
    apply Array.toList_inj.1; rw [hz]
  by_cases h0 : len * ei.size = 0
  · have hnil : repL z'.cells.toList len = [] := by
      apply List.length_eq_zero_iff.1; rw [repL_length]; simp [he.zlen, h0]
    rw [hnil] at h4
    simp [Instr.buildSlice, ht.run_und, he.run_size, h0, h4, Go.newRow, range0]
  · rw [he.zlen.symm] at hz2
    simp [Instr.buildSlice, ht.run_und, he.run_size, h0, hsz, he.run_zero, Go.newRow]
    rw [he.zlen] at hz2 ⊢
    rw [hz2, h4]
    simp
theorem aBSlice_rel {e len : Nat} {ei : TI} {i' d' z'} (he : TiOK P e ei i' d' z') (hlen : (ei.size + 1) * len ≤ 16777216) {p : Fill} {ps : List (Nat × Value)}
    (hp : FillR S φ f l (fun i => some (i * ei.size, ei.size)) p ps) {o : Eng.Obj} {mk : Nat → V} (hr : aBSlice e len (repL ei.zero.cells len) p f l = some (o, mk))
    {a' : Array Value} (ha : Instr.fill (fun i => some (i * ei.size, ei.size)) (repL z'.cells.toList len).toArray ps = some a') {c b : Nat} (hb : φ b = some ⟨c, a'.size, esOf ty e⟩) :
    OAt S ty φ o ⟨c, a'.size, esOf ty e⟩ (.cells a' e) ∧ VR S φ (mk b) (.slice (some ⟨c, 0, none⟩) len len) := by
  obtain ⟨cs, h1, hr⟩ := ob_eq.1 hr
  obtain ⟨o', h2, hr⟩ := ob_eq.1 hr
  cases hr
  obtain ⟨a2, h4, h5, _⟩ := hp _ _ (repL z'.cells.toList len).toArray (by simpa using ((he.vr S φ).cells he.any).rep len) h1
  rw [ha] at h4; cases h4
  have : len ≤ (ei.size + 1) * len := Nat.le_mul_of_pos_left _ (by omega)
  exact ⟨row_at h5 h2, VR.newSlc hb (Nat.le_refl _) (by omega)⟩
theorem aMkSlice_run {t e : Nat} {ti ei : TI} {i i' d d' zz z'} (ht : TiOK P t ti i d zz) (he : TiOK P e ei i' d' z') (hk : ti.d = .slc e) (hx : EvR S φ f l x wx) (hy : EvR S φ f l y wy)
    {o : Eng.Obj} {mk : Nat → V} (hr : aMkSlice e ei.bytes ei.zero.cells x y f l = some (o, mk)) :
    ∃ kx ky, ∃ n c : Nat, wx = .int kx n ∧ wy = .int ky c ∧ n ≤ c ∧ (ei.bytes + 1) * c ≤ maxLenN ∧
      (Instr.makeSlice t wx wy).run P W = .ok (.slice (some ⟨W.heap.size, 0, none⟩) n c) { W with heap := W.heap.push (.cells (repL z'.cells.toList c).toArray e) } := by
  obtain ⟨kx, n, h1, hr⟩ := oNat hr
  obtain ⟨ky, c, h2, hr⟩ := oNat hr
  obtain ⟨h3, hr⟩ := gd_eq.1 hr
  obtain ⟨h4, hr⟩ := gd_eq.1 hr
  rw [natBle_eq] at h3 h4
  have := (hx _ h1).int; subst this
  have := (hy _ h2).int; subst this
  have hd := ht.dr; rw [hk] at hd; simp only [DR] at hd; subst hd
  refine ⟨kx, ky, n, c, rfl, rfl, h3, h4, ?_⟩
  have h4 : (ei.bytes + 1) * c ≤ 281474976710656 := h4
  have hc : c ≤ (ei.bytes + 1) * c := Nat.le_mul_of_pos_left _ (by omega)
  have hb : ei.bytes * c ≤ (ei.bytes + 1) * c := by rw [Nat.add_mul]; omega
  have w1 : IntKind.i64.wrap (n : Int) = n := wrap_id (by omega) (by omega)
  have w2 : IntKind.i64.wrap (c : Int) = c := wrap_id (by omega) (by omega)
  have e1 : (decide ((c : Int) < 0) || decide ((ei.bytes : Int) * c > 2 ^ 48)) = false := by
    have : (ei.bytes : Int) * c = ((ei.bytes * c : Nat) : Int) := by push_cast; rfl
    rw [this]
    simp; omega
  have e2 : decide ((n : Int) < 0) = false := by simp
  have e3 : decide ((n : Int) > c) = false := by simp; omega
  have hz := rep_map z'.cells c
  rw [he.zlen] at hz
  have hz2 : (Array.range (c * ei.size)).map (fun i => z'.cells[i % ei.size]!) = (repL z'.cells.toList c).toArray := by
    apply Array.toList_inj.1; rw [hz]
  have hinfo := he.run_info (W := W)
  simp only [Instr.makeSlice, Sem.run_bind, ht.run_und, Result.andThen_ok, asInt, asIntOf, Sem.run_pure, hinfo, w1, w2, he.bytes, e1, e2, e3, Bool.or_false, Bool.false_eq_true, if_false, run_askRoom, he.run_size, Int.toNat_natCast]
  by_cases h0 : c * ei.size = 0
  · have hnil : repL z'.cells.toList c = [] := by
      apply List.length_eq_zero_iff.1; rw [repL_length]; simp [he.zlen, h0]
    rw [hnil]
    simp [h0, Go.newRow, range0]
  · simp only [h0, if_false, Sem.run_bind, he.run_zero, Result.andThen_ok, Sem.run_pure, he.zlen, hz2, Go.newRow, run_newObj]
theorem aMkSlice_rel {e : Nat} {ei : TI} {i' d' z'} (he : TiOK P e ei i' d' z') {kx ky : IntKind} {n c : Nat} (hx : EvR S φ f l x (.int kx n)) (hy : EvR S φ f l y (.int ky c)) (h1 : n ≤ c) (h2 : (ei.bytes + 1) * c ≤ maxLenN)
    {o : Eng.Obj} {mk : Nat → V} (hr : aMkSlice e ei.bytes ei.zero.cells x y f l = some (o, mk)) {k b : Nat} (hb : φ b = some ⟨k, (repL z'.cells.toList c).toArray.size, esOf ty e⟩) :
    OAt S ty φ o ⟨k, (repL z'.cells.toList c).toArray.size, esOf ty e⟩ (.cells (repL z'.cells.toList c).toArray e) ∧ VR S φ (mk b) (.slice (some ⟨k, 0, none⟩) n c) := by
  obtain ⟨kx', n', g1, hr⟩ := oNat hr
  obtain ⟨ky', c', g2, hr⟩ := oNat hr
  obtain ⟨_, hr⟩ := gd_eq.1 hr
  obtain ⟨_, hr⟩ := gd_eq.1 hr
  obtain ⟨o', g3, hr⟩ := ob_eq.1 hr
  cases hr
  have e1 := (hx _ g1).int
  have e2 := (hy _ g2).int
  have : n' = n := by injection e1 with _ e; omega
  subst this
  have : c' = c := by injection e2 with _ e; omega
  subst this
  have h2 : (ei.bytes + 1) * c' ≤ 281474976710656 := h2
  have hc : c' ≤ (ei.bytes + 1) * c' := Nat.le_mul_of_pos_left _ (by omega)
  exact ⟨row_at (by simpa using ((he.vr S φ).cells he.any).rep c') g3, VR.newSlc hb h1 (by omega)⟩

/-! ## A string's bytes -/
theorem strCells_run {s : List UInt8} : ∀ {n i : Nat} {cs : List V}, strCells s.length (pk s) n i = some cs → i + n ≤ s.length → VRL S φ cs (((s.drop i).take n).map byteV) ∧ cs.length = n
  | 0, i, cs, hr, hn => by
    have e : strCells s.length (pk s) 0 i = some [] := rfl
    rw [e] at hr; cases hr
    exact ⟨by simpa using VRL.nil, rfl⟩
  | n + 1, i, cs, hr, hn => by
    have e : strCells s.length (pk s) (n + 1) i = ob (strCells s.length (pk s) n (i + 1)) fun l => fN (sByte s.length (pk s) i) fun c => some (V.int .u8 (.ofNat c) :: l) := rfl
    rw [e] at hr
    obtain ⟨m, h1, hr⟩ := ob_eq.1 hr
    rw [fN_eq] at hr; cases hr
    obtain ⟨h2, h3⟩ := strCells_run h1 (by omega)
    refine ⟨?_, by simp [h3]⟩
    have hi : i < s.length := by omega
    rw [List.drop_eq_getElem_cons hi, List.take_succ_cons, List.map_cons]
    refine VRL.cons ?_ h2
    rw [sByte_eq hi]; exact VR.mkInt
end
end Eng

/- A string turned to bytes. -/
namespace Eng
open Go

theorem modify_push {α : Type} (a : Array α) (x : α) (g : α → α) : (a.push x).modify a.size g = a.push (g x) := by
  apply Array.ext_getElem?
  intro i
  rw [Array.getElem?_modify, Array.getElem?_push, Array.getElem?_push]
  by_cases h : a.size = i
  · subst h; simp
  · have : ¬ i = a.size := fun e => h e.symm
    simp [h, this]

section
variable {P : Program} {S : Sym} {ty : Nat → Option TI} {φ : Mp} {h : H} {W : World} {f : FT} {l : List V}
variable {v : V} {x y z : Ev} {wx wy wz : Value}

def bytesArr (s : ByteArray) (cap : Nat) : Array Value := (s.data.map fun b => Value.int .u8 b.toNat) ++ Array.replicate (cap - s.size) (.int .u8 0)
theorem bytesArr_size (s : ByteArray) (cap : Nat) (h : s.size ≤ cap) : (bytesArr s cap).size = cap := by
  have : s.data.size = s.size := rfl
  simp [bytesArr, this]; omega
theorem run_stringToBytes (e : Nat) (s : ByteArray) (hs : s.size < 2 ^ 63) : ∃ cap k, s.size ≤ cap ∧ cap < 2 ^ 63 ∧
    (Conv.stringToBytes e s).run P W = .ok (.slice (some ⟨W.heap.size, 0, none⟩) s.size cap) { W with heap := W.heap.push (.cells (bytesArr s cap) e (cap, cap + 1)), drawn := k } := by
  have hcut : ∃ cap, (Question.cut (.appendCap s.size 0 e) (W.tape W.drawn (.appendCap s.size 0 e))) = cap ∧ s.size ≤ cap ∧ cap < 2 ^ 63 := by
    refine ⟨_, rfl, ?_, ?_⟩
    · simp only [Question.cut]; omega
    · simp only [Question.cut]
      have := Nat.mod_lt (W.tape W.drawn (.appendCap s.size 0 e)) (show 0 < 2 ^ 63 - s.size by omega)
      omega
  obtain ⟨cap, h1, h2, h3⟩ := hcut
  refine ⟨cap, W.drawn + 1, h2, h3, ?_⟩
  have hsz := bytesArr_size s cap h2
  have hch : (choose (.appendCap s.size 0 e)).run P W = .ok cap { W with drawn := W.drawn + 1 } := by
    rw [run_choose, if_neg (by simp [Question.forced]), h1]
  unfold Conv.stringToBytes
  rw [Sem.run_bind, hch]
  show ((Go.newRow e (bytesArr s cap) >>= fun a => markStringish a >>= fun _ => pure (.slice (some a) s.size cap) : Sem Value)).run P { W with drawn := W.drawn + 1 } = _
  simp only [Go.newRow, Sem.run_bind, run_newObj, Result.andThen_ok, Sem.run_pure, markStringish, run_shape]
  have hshape : World.shape? { heap := W.heap.push (.cells (bytesArr s cap) e), tape := W.tape, drawn := W.drawn + 1, os := W.os, output := W.output } W.heap.size = some (e, cap) := by
    simp [World.shape?, hsz]
  rw [hshape]
  simp only [run_freeze, Result.andThen_ok, World.freeze, Nat.one_ne_zero, if_false, modify_push]
  rfl
theorem aCsb_sound {s t e : Nat} {si ti ei : TI} {i i' i'' d d' d'' z z' z''} (hs : TiOK P s si i d z) (ht : TiOK P t ti i' d' z') (he : TiOK P e ei i'' d'' z'') (hk : si.d = .str) (hk' : ti.d = .slc e) (hu : isU8 ei = true)
    (hx : EvR S φ f l x wx) {o : Eng.Obj} {mk : Nat → V} (hr : aCsb e x f l = some (o, mk)) :
    ∃ str cap k, wx = .string str ∧ str.size ≤ cap ∧ cap < 2 ^ 63 ∧
      (convert s t wx).run P W = .ok (.slice (some ⟨W.heap.size, 0, none⟩) str.size cap) { W with heap := W.heap.push (.cells (bytesArr str cap) e (cap, cap + 1)), drawn := k } := by
  have hd := hs.dr; rw [hk] at hd; simp only [DR] at hd; subst hd
  have hd' := ht.dr; rw [hk'] at hd'; simp only [DR] at hd'; subst hd'
  have hd'' := he.dr
  have hu' : ei.d = .int .u8 := by
    unfold isU8 at hu; split at hu
    · assumption
    · cases hu
  rw [hu'] at hd''; simp only [DR] at hd''; subst hd''
  obtain ⟨len, val, h1, hr⟩ := oStr hr
  obtain ⟨h2, hr⟩ := gd_eq.1 hr
  rw [natBle_eq] at h2
  have h2 : len ≤ 281474976710656 := h2
  obtain ⟨str, rfl, h3⟩ := (hx _ h1).str
  have hsz : str.size = len := h3.1
  obtain ⟨cap, k, h4, h5, h6⟩ := run_stringToBytes (P := P) (W := W) e str (by omega)
  refine ⟨str, cap, k, rfl, h4, h5, ?_⟩
  rw [← h6]
  simp [convert, hs.run_und, ht.run_und, he.run_und]
theorem aCsb_rel {e : Nat} {ei : TI} (hu : isU8 ei = true) (hte : ty e = some ei) {str : ByteArray} {cap : Nat} (hc : str.size ≤ cap) (hc2 : cap < 2 ^ 63)
    (hx : EvR S φ f l x (.string str)) {o : Eng.Obj} {mk : Nat → V} (hr : aCsb e x f l = some (o, mk)) {c b : Nat} (hb : φ b = some ⟨c, cap, 1⟩) :
    OAt S ty φ o ⟨c, cap, 1⟩ (.cells (bytesArr str cap) e (cap, cap + 1)) ∧ VR S φ (mk b) (.slice (some ⟨c, 0, none⟩) str.size cap) := by
  have hsize : ei.size = 1 := by
    unfold isU8 at hu; split at hu
    · simpa using hu
    · cases hu
  obtain ⟨len, val, h1, hr⟩ := oStr hr
  obtain ⟨h2, hr⟩ := gd_eq.1 hr
  obtain ⟨cs, h3, hr⟩ := ob_eq.1 hr
  rw [T.fc_eq] at hr; cases hr
  obtain ⟨str', e1, h4⟩ := (hx _ h1).str
  cases e1
  obtain ⟨h5, h6⟩ := h4.pkl
  have hsz : str.size = len := h4.1
  rw [← h5, ← h6] at h3
  obtain ⟨h7, h8⟩ := strCells_run h3 (by omega)
  constructor
  · refine ⟨bytesArr str cap, cap, cap + 1, rfl, bytesArr_size str cap hc, by show len ≤ cap; omega, fun ti h => by rw [hte] at h; cases h; exact hsize.symm, fun i v hv => ?_, fun j hj _ => .inr ⟨rfl, hj⟩, by omega⟩
    rw [ofL_at] at hv
    have hi : i < cs.length := by
      rcases Nat.lt_or_ge i cs.length with h' | h'
      · exact h'
      · simp [List.getElem?_eq_none h'] at hv
    refine ⟨by omega, ?_⟩
    obtain ⟨w, h9, h10⟩ := h7.get hv
    refine ⟨w, ?_, h10⟩
    rw [← h9]
    have hi2 : i < str.data.size := by have : str.data.size = str.size := rfl; omega
    simp only [List.drop_zero]
    rw [List.take_of_length_le (Nat.le_refl _), bytesArr, Array.getElem?_append_left (by simpa using hi2), List.getElem?_map, Array.getElem?_map, Array.getElem?_toList]
    rfl
  · rw [hsz]
    unfold VR
    exact ⟨_, _, cap, hb, rfl, by omega, hc2, rfl, rfl, .inr rfl, by simp⟩
end
end Eng

/- What turns the heap: frames; storing; maps. -/
namespace Eng
open Go

def putW (W : World) (c : Nat) (o : Go.Obj) : World := { W with heap := W.heap.setIfInBounds c o }
@[simp] theorem putW_heap (W : World) (c : Nat) (o : Go.Obj) : (putW W c o).heap = W.heap.setIfInBounds c o := rfl
theorem putW_putW (W : World) (c : Nat) (o o' : Go.Obj) : putW (putW W c o) c o' = putW W c o' := by
  unfold putW; simp
theorem putW_self {W : World} {c : Nat} {o : Go.Obj} (h : W.heap[c]? = some o) : putW W c o = W := by
  unfold putW
  have : W.heap.setIfInBounds c o = W.heap := by
    apply Array.ext_getElem?
    intro i
    rw [Array.getElem?_setIfInBounds]
    split
    · subst c; split
      · exact h.symm
      · rename_i h1; rw [Array.getElem?_eq_none (by omega)] at h; cases h
    · rfl
  rw [this]
theorem putW_at {W : World} {c : Nat} {o o' : Go.Obj} (h : W.heap[c]? = some o) : (putW W c o').heap[c]? = some o' := by
  have hc : c < W.heap.size := by
    rcases Nat.lt_or_ge c W.heap.size with h' | h'
    · exact h'
    · rw [Array.getElem?_eq_none h'] at h; cases h
  simp [hc]
theorem putW_other {W : World} {c d : Nat} {o : Go.Obj} (h : d ≠ c) : (putW W c o).heap[d]? = W.heap[d]? := by
  simp [Ne.symm h]

section
variable {P : Program} {S : Sym} {ty : Nat → Option TI} {φ : Mp} {h : H} {W : World} {f : FT} {l : List V}
variable {v : V} {x y z : Ev} {wx wy wz : Value}

/-- How an effect is answered. -/
def EfA (S : Sym) (ty : Nat → Option TI) (φ : Mp) (h : H) (W : World) (v : V) (h' : H) (res : Result Value) : Prop :=
  ∃ φ' w W', res = .ok w W' ∧ VR S φ' v w ∧ RH S ty φ' h' W'.heap ∧ Fr φ h W φ' h' W'

/-- The world but for the heap stands. -/
theorem Fr.put {b : Nat} {L : Loc} {o o2 : Eng.Obj} {W' : World} (hb : h.t.get b = some o) (hd : o ≠ .dead) (hL : φ b = some L) (hs : W'.heap.size = W.heap.size) (hk : ∀ c, c ≠ L.c → W'.heap[c]? = W.heap[c]?)
    (ht : W'.tape = W.tape) (hos : W'.os = W.os) (ho : W'.output = W.output) : Fr φ h W φ ⟨h.next, h.t.set b o2⟩ W' := by
  have lv : ∀ {x : Nat}, Live ⟨h.next, h.t.set b o2⟩ x → Live h x := by
    rintro x ⟨p, e, nd⟩
    rw [T.get_set] at e
    by_cases hx : x = b
    · subst hx; exact ⟨o, hb, hd⟩
    · rw [if_neg hx] at e; exact ⟨p, e, nd⟩
  refine ⟨Gro.refl φ, fun _ _ => rfl, fun x _ l => lv l, Nat.le_refl _, by omega, ht, hos, ho, fun c hc n => ⟨hk c fun hcc => n ⟨b, L, ⟨o, hb, hd⟩, hL, hcc.symm⟩, ?_⟩⟩
  rintro ⟨x, M, lx, e, rfl⟩
  exact n ⟨x, M, lv lx, e, rfl⟩
theorem Fr.new (r : RH S ty φ h W.heap) {o : Eng.Obj} {L : Loc} (hc : L.c = W.heap.size) {W' : World} {o' : Go.Obj} (hW : W'.heap = W.heap.push o') (ht : W'.tape = W.tape) (hos : W'.os = W.os) (ho : W'.output = W.output) :
    Fr φ h W (φ.add h.next L) ⟨h.next + 1, h.t.set h.next o⟩ W' := by
  refine ⟨Mp.ext_add r.fresh, fun b hb => by unfold Mp.add; rw [if_neg (by omega)], fun x hx => ?_, by simp, by rw [hW]; simp, ht, hos, ho, fun c hlt n => ⟨?_, own_new hc hlt n⟩⟩
  · rintro ⟨p, e, nd⟩
    rw [T.get_set, if_neg (by omega)] at e
    exact ⟨p, e, nd⟩
  · rw [hW, Array.getElem?_push, if_neg (by omega)]
theorem EfA.same (r : RH S ty φ h W.heap) {w : Value} (hv : VR S φ v w) : EfA S ty φ h W v h (.ok w W) := ⟨φ, w, W, rfl, hv, r, Fr.refl φ h W⟩
theorem vrU : VR S φ undefV (.tuple #[]) := by unfold undefV; exact VR.mkTup VRL.nil

/-- A block is put, where it lies. -/
theorem EfA.put (r : RH S ty φ h W.heap) {b : Nat} {L : Loc} {o o2 : Eng.Obj} (hb : h.t.get b = some o) (hd : o ≠ .dead) (hL : φ b = some L) {o2' : Go.Obj} (ho : OAt S ty φ o2 L o2') {w : Value} (hv : VR S φ v w) :
    EfA S ty φ h W v ⟨h.next, h.t.set b o2⟩ (.ok w (putW W L.c o2')) := by
  obtain ⟨L', o', hL', h1, _⟩ := r.live b o hb hd
  rw [hL] at hL'; cases hL'
  refine ⟨φ, w, _, rfl, hv, r.put hb hd hL (by simp) (fun c hc => putW_other hc) (putW_at h1) ho, Fr.put hb hd hL (by simp) (fun c hc => putW_other hc) rfl rfl rfl⟩

/-! ## Storing cells -/
theorem setCell_put {c o : Nat} {arr : Array Value} {e : Nat} {fr : Nat × Nat} (hc : W.heap[c]? = some (.cells arr e fr)) (w : Value) : W.setCell ⟨c, o, none⟩ w = putW W c (.cells (arr.setIfInBounds o w) e fr) := by
  unfold World.setCell putW
  congr 1
  apply Array.ext_getElem?
  intro i
  rw [Array.getElem?_modify, Array.getElem?_setIfInBounds]
  by_cases hi : c = i
  · subst hi
    have hlt : c < W.heap.size := by
      rcases Nat.lt_or_ge c W.heap.size with h' | h'
      · exact h'
      · rw [Array.getElem?_eq_none h'] at hc; cases hc
    rw [if_pos rfl, if_pos rfl, if_pos hlt, hc]; rfl
  · rw [if_neg hi, if_neg hi]
theorem run_store1 {c o : Nat} {arr : Array Value} {e lo hi : Nat} (hc : W.heap[c]? = some (.cells arr e (lo, hi))) (ho : o < arr.size) (hf : ¬ (lo ≤ o ∧ o < hi)) {w : Value} (h1 : ∀ a, w ≠ .agg a) (h2 : ∀ a, w ≠ .tuple a) :
    (store ⟨c, o, none⟩ w).run P W = .ok () (putW W c (.cells (arr.setIfInBounds o w) e (lo, hi))) := by
  have hcell : W.cell? ⟨c, o, none⟩ = some arr[o] := by simp [World.cell?, hc, ho]
  have hfr : W.frozen? ⟨c, o, none⟩ = false := by simp only [World.frozen?, hc]; simpa using fun a => by omega
  have : (store ⟨c, o, none⟩ w).run P W = .ok () (W.setCell ⟨c, o, none⟩ w) := by
    rw [store]
    cases w <;> first | exact absurd rfl (h1 _) | exact absurd rfl (h2 _) | simp [Sem.run, hcell, hfr]
  rw [this, setCell_put hc]
theorem run_storeCells {c o e lo hi : Nat} : ∀ (ws : List Value) (i : Nat) (W : World) (arr : Array Value), W.heap[c]? = some (.cells arr e (lo, hi)) → o + i + ws.length ≤ arr.size →
    (∀ j, o + i ≤ j → j < o + i + ws.length → ¬ (lo ≤ j ∧ j < hi)) → (∀ w ∈ ws, (∀ a, w ≠ .agg a) ∧ (∀ a, w ≠ .tuple a)) →
    (storeCells ⟨c, o, none⟩ ws i).run P W = .ok () (putW W c (.cells (sAt arr.toList (o + i) ws).toArray e (lo, hi)))
  | [], i, W, arr, hc, _, _, _ => by
    rw [sAt_nil]
    simp only [storeCells, Sem.run_pure]
    rw [putW_self (by simpa using hc)]
  | w :: ws, i, W, arr, hc, hsz, hf, h1 => by
    simp only [List.length_cons] at hsz hf
    obtain ⟨h2, h3⟩ := h1 w (by simp)
    unfold storeCells
    rw [Sem.run_bind, add_at, run_store1 hc (by omega) (hf _ (by omega) (by omega)) h2 h3, Result.andThen_ok]
    rw [run_storeCells ws (i + 1) _ (arr.setIfInBounds (o + i) w) (putW_at hc) (by simp; omega) (fun j h4 h5 => hf j (by omega) (by omega)) fun u hu => h1 u (List.mem_cons_of_mem _ hu)]
    rw [putW_putW, sAt_cons, Array.toList_setIfInBounds]
    rfl

theorem all1_one {l : List V} (h : all1 l = true) : ∀ v ∈ l, v.one = true := by
  induction l with
  | nil => simp
  | cons a l ih =>
    intro v hv
    have h : (Bool.casesOn a.one false (all1 l) : Bool) = true := h
    cases ha : a.one with
    | false => rw [ha] at h; cases h
    | true =>
      rw [ha] at h
      rcases List.mem_cons.1 hv with rfl | hv
      · exact ha
      · exact ih h v hv
theorem VRL.ones {vs : List V} {ws : List Value} (h : VRL S φ vs ws) (h1 : all1 vs = true) : ∀ w ∈ ws, (∀ a, w ≠ .agg a) ∧ (∀ a, w ≠ .tuple a) := by
  have h2 := all1_one h1
  clear h1
  induction vs generalizing ws with
  | nil => unfold VRL at h; subst h; simp
  | cons v vs ih =>
    unfold VRL at h
    obtain ⟨w, ws', rfl, h3, h4⟩ := h
    intro u hu
    rcases List.mem_cons.1 hu with rfl | hu
    · exact h3.oneCell (h2 v (by simp))
    · exact ih h4 (fun x hx => h2 x (List.mem_cons_of_mem _ hx)) u hu

/-- Cells turned in a row: what the engine's row says then. -/
theorem sAt_get {α : Type} : ∀ (l : List α) (o : Nat) (cs : List α) (i : Nat), o + cs.length ≤ l.length → (sAt l o cs)[i]? = if o ≤ i ∧ i < o + cs.length then cs[i - o]? else l[i]?
  | l, o, [], i, _ => by rw [sAt_nil, if_neg (by simp)]
  | l, o, c :: cs, i, h => by
    simp only [List.length_cons] at h
    rw [sAt_cons, sAt_get (l.set o c) (o + 1) cs i (by simp; omega)]
    by_cases h1 : o + 1 ≤ i ∧ i < o + 1 + cs.length
    · rw [if_pos h1, if_pos (by simp; omega)]
      rw [show i - o = (i - (o + 1)) + 1 from by omega, List.getElem?_cons_succ]
    · rw [if_neg h1, List.getElem?_set]
      by_cases h2 : o = i
      · subst h2; rw [if_pos rfl, if_pos (by omega), if_pos (by simp)]; simp
      · rw [if_neg h2, if_neg (by simp; omega)]
theorem cells_set {n : Nat} {t : T V} {e fz : Nat} {sf : Bool} {L : Loc} {arr : Array Value} {lo hi : Nat} (hsz : arr.size = L.top) (hn : n ≤ L.top) (hes : ∀ ti, ty e = some ti → L.es = ti.size)
    (hg : ∀ i v, t.get i = some v → i < n ∧ ∃ w, arr[i]? = some w ∧ VR S φ v w) (hfr : (∀ j, lo ≤ j → j < hi → j < fz ∨ (sf = true ∧ L.top ≤ j)) ∧ lo ≤ hi) {vs : List V} {ws : List Value} (hv : VRL S φ vs ws) {o : Nat} (ho : o + vs.length ≤ n) :
    OAt S ty φ (.cells n (T.setL vs t o) e fz sf) L (.cells (sAt arr.toList o ws).toArray e (lo, hi)) := by
  have hl := hv.length
  refine ⟨_, lo, hi, rfl, by simp [sAt_length, hsz], hn, hes, fun i v hi' => ?_, hfr⟩
  rw [T.setL_get] at hi'
  have hget : ((sAt arr.toList o ws).toArray)[i]? = if o ≤ i ∧ i < o + ws.length then ws[i - o]? else arr[i]? := by
    rw [List.getElem?_toArray, sAt_get _ _ _ _ (by simp; omega), (Array.getElem?_toList : arr.toList[i]? = arr[i]?)]
  by_cases h1 : o ≤ i ∧ i < o + vs.length
  · rw [if_pos h1] at hi'
    refine ⟨by omega, ?_⟩
    obtain ⟨w, h2, h3⟩ := hv.get hi'
    exact ⟨w, by rw [hget, if_pos (by omega)]; exact h2, h3⟩
  · rw [if_neg h1] at hi'
    obtain ⟨h2, w, h3, h4⟩ := hg i v hi'
    exact ⟨h2, w, by rw [hget, if_neg (by omega)]; exact h3, h4⟩
/-- Cells are stored at a block. -/
theorem putCells_run {β : Type} (r : RH S ty φ h W.heap) {b off : Nat} {vs : List V} {ws : List Value} {k : H → Option β} {res : β} (hr : putCells h b off vs k = some res) {L : Loc} (hL : φ b = some L) (hv : VRL S φ vs ws) :
    ∃ o o2 o2', h.t.get b = some o ∧ o ≠ .dead ∧ OAt S ty φ o2 L o2' ∧ k ⟨h.next, h.t.set b o2⟩ = some res ∧ (storeCells ⟨L.c, off, none⟩ ws).run P W = .ok () (putW W L.c o2') ∧ ∃ n t e fz sf, o = .cells n t e fz sf ∧ off + vs.length ≤ n := by
  obtain ⟨n, t, e, fz, sf, hb, hr⟩ := onCells_eq.1 hr
  obtain ⟨h1, hr⟩ := gd_eq.1 hr
  obtain ⟨h2, hr⟩ := gd_eq.1 hr
  obtain ⟨h3, hr⟩ := gd_eq.1 hr
  rw [T.fc_eq, putO_eq] at hr
  rw [natBle_eq, lenL_zero] at h1
  rw [natBle_eq] at h2
  have h1 : off + vs.length ≤ n := h1
  obtain ⟨L', arr, lo, hi, hL', q1, q2, q3, q4, q5, q6⟩ := r.rd.row hb
  rw [hL] at hL'; cases hL'
  have hl := hv.length
  refine ⟨_, _, _, hb, by simp, cells_set q2 q3 q4 q5 q6 hv h1, hr, ?_, n, t, e, fz, sf, rfl, h1⟩
  refine run_storeCells ws 0 W arr q1 (by omega) (fun j hj hj' hh => ?_) (hv.ones h3)
  rcases q6.1 j hh.1 hh.2 with h4 | h4
  · omega
  · omega
theorem fStore1_run {t : Nat} {ti : TI} {i d zz} (ht : TiOK P t ti i d zz) (hs : ti.size = 1) (r : RH S ty φ h W.heap) (hx : EvR S φ f l x wx) (hy : EvR S φ f l y wy) {h' : H} (hr : fStore1 x y f l h = some (v, h')) :
    EfA S ty φ h W v h' ((Instr.storeAt t wx wy).run P W |>.andThen fun _ w => .ok (.tuple #[]) w) := by
  obtain ⟨b, off, h1, hr⟩ := oPtr hr
  obtain ⟨va, h2, hr⟩ := ob_eq.1 hr
  obtain ⟨n, tr, e, fz, sf, hb, hr⟩ := onCells_eq.1 hr
  obtain ⟨g1, hr⟩ := gd_eq.1 hr
  obtain ⟨g2, hr⟩ := gd_eq.1 hr
  obtain ⟨g3, hr⟩ := gd_eq.1 hr
  rw [T.fc_eq, putO_eq] at hr
  cases hr
  rw [natBlt_eq] at g1
  rw [natBle_eq] at g2
  obtain ⟨L, hL, rfl⟩ := (hx _ h1).ptr
  have hv := hy _ h2
  obtain ⟨o1, o2⟩ := hv.oneCell g3
  obtain ⟨L', arr, lo, hi, hL', q1, q2, q3, q4, q5, q6⟩ := r.rd.row hb
  rw [hL] at hL'; cases hL'
  have hcells : wy.cells = #[wy] := by cases wy <;> first | rfl | exact absurd rfl (o1 _)
  have hst : (Instr.storeAt t (.pointer (some ⟨L.c, off, none⟩)) wy).run P W = .ok () (putW W L.c (.cells (sAt arr.toList off [wy]).toArray e (lo, hi))) := by
    have := run_storeCells (P := P) (o := off) (c := L.c) [wy] 0 W arr q1 (by simp; omega) (fun j hj hj' hh => by
      rcases q6.1 j hh.1 hh.2 with h4 | h4
      · simp at hj hj'; omega
      · simp at hj hj'; omega) (fun w hw => by simp at hw; subst hw; exact ⟨o1, o2⟩)
    simp [Instr.storeAt, Instr.sureAddr, storeVar, hcells, ht.run_size, hs]
    exact this
  rw [hst, Result.andThen_ok]
  have := cells_set (S := S) (φ := φ) q2 q3 q4 q5 q6 (VRL.one hv) (o := off) (by simp; omega)
  refine EfA.put r hb (by simp) hL ?_ vrU
  rw [show tr.set off va = T.setL [va] tr off from by rw [T.setL_cons]; rfl]
  exact this
theorem fStoreN_run {t : Nat} {ti : TI} {i d zz} (ht : TiOK P t ti i d zz) (r : RH S ty φ h W.heap) (hx : EvR S φ f l x wx) (hy : EvR S φ f l y wy) {h' : H} (hr : fStoreN ti.size x y f l h = some (v, h')) :
    EfA S ty φ h W v h' ((Instr.storeAt t wx wy).run P W |>.andThen fun _ w => .ok (.tuple #[]) w) := by
  obtain ⟨b, off, h1, hr⟩ := oPtr hr
  obtain ⟨va, h2, hr⟩ := ob_eq.1 hr
  obtain ⟨g1, hr⟩ := gd_eq.1 hr
  obtain ⟨g2, hr⟩ := gd_eq.1 hr
  obtain ⟨L, hL, rfl⟩ := (hx _ h1).ptr
  have hv := (hy _ h2).cells (by simpa using g1)
  rw [natBeq_eq, lenL_zero] at g2
  obtain ⟨o, o2, o2', hb, hd, ho, hr, hst, _⟩ := putCells_run (P := P) r hr hL hv
  cases hr
  have hl := hv.length
  rw [Array.length_toList] at hl
  have hst' : (Instr.storeAt t (.pointer (some ⟨L.c, off, none⟩)) wy).run P W = .ok () (putW W L.c o2') := by
    simp [Instr.storeAt, Instr.sureAddr, storeVar, ht.run_size, hl, g2]
    exact hst
  rw [hst', Result.andThen_ok]
  exact EfA.put r hb hd hL ho vrU
end
end Eng

/- What turns the heap: maps. -/
namespace Eng
open Go

section
variable {P : Program} {S : Sym} {ty : Nat → Option TI} {φ : Mp} {h : H} {W : World} {f : FT} {l : List V}
variable {v : V} {x y z : Ev} {wx wy wz : Value}

theorem EsR.nil : EsR S φ [] [] := by unfold EsR; rfl
theorem EsR.cons {k v : V} {n : Nat} {es : List (V × V × Nat)} {e : MapEntry} {m : List MapEntry} (h1 : VR S φ k e.key) (h2 : VR S φ v e.val) (h3 : e.born = n) (h4 : EsR S φ es m) : EsR S φ ((k, v, n) :: es) (e :: m) :=
  ⟨e, m, rfl, h1, h2, h3, h4⟩
theorem EsR.set {k' v' : V} {e' : MapEntry} (h1 : VR S φ k' e'.key) (h2 : VR S φ v' e'.val) : ∀ {es : List (V × V × Nat)} {m : List MapEntry} {j : Nat}, EsR S φ es m → EsR S φ (es.set j (k', v', e'.born)) (m.set j e')
  | [], m, j, h => by unfold EsR at h; subst h; exact EsR.nil
  | (k, v, n) :: es, m, 0, h => by obtain ⟨e, m', rfl, _, _, _, h⟩ := h; exact EsR.cons h1 h2 rfl h
  | (k, v, n) :: es, m, j + 1, h => by obtain ⟨e, m', rfl, a, b, c, h⟩ := h; exact EsR.cons a b c (EsR.set h1 h2 h)
theorem EsR.erase : ∀ {es : List (V × V × Nat)} {m : List MapEntry} {j : Nat}, EsR S φ es m → EsR S φ (es.eraseIdx j) (m.eraseIdx j)
  | [], m, j, h => by unfold EsR at h; subst h; exact EsR.nil
  | (k, v, n) :: es, m, 0, h => by obtain ⟨e, m', rfl, _, _, _, h⟩ := h; exact h
  | (k, v, n) :: es, m, j + 1, h => by obtain ⟨e, m', rfl, a, b, c, h⟩ := h; exact EsR.cons a b c (EsR.erase h)
theorem EsR.snoc {k' v' : V} {e' : MapEntry} (h1 : VR S φ k' e'.key) (h2 : VR S φ v' e'.val) : ∀ {es : List (V × V × Nat)} {m : List MapEntry}, EsR S φ es m → EsR S φ (es ++ [(k', v', e'.born)]) (m ++ [e'])
  | [], m, h => by unfold EsR at h; subst h; exact EsR.cons h1 h2 rfl EsR.nil
  | (k, v, n) :: es, m, h => by obtain ⟨e, m', rfl, a, b, c, h⟩ := h; exact EsR.cons a b c (EsR.snoc h1 h2 h)

theorem OAt.map {es : List (V × V × Nat)} {m : Array MapEntry} {c : Nat} {L : Loc} (h : EsR S φ es m.toList) : OAt S ty φ (.map es c) L (.map m c) := ⟨m, rfl, h⟩
theorem OAt.miter0 {since stepped : Nat} {seen : List Nat} {seen' : Array Nat} {L : Loc} : OAt S ty φ (.miter none since seen stepped) L (.mapIter none since seen' stepped) := ⟨seen', rfl⟩
theorem OAt.miter {m since stepped : Nat} {seen : List Nat} {L Lm : Loc} (h : φ m = some Lm) : OAt S ty φ (.miter (some m) since seen stepped) L (.mapIter (some Lm.c) since seen.reverse.toArray stepped) := ⟨Lm, h, rfl⟩
theorem run_setObj_map {c k : Nat} {es : Array MapEntry} (hc : W.heap[c]? = some (.map es k)) (o : Go.Obj) : (setObj c o).run P W = .ok () (putW W c o) := by
  simp only [setObj, Sem.run, hc]; rfl
theorem same_key {kk : KK} {a b : V} (ha : keyOk kk a = true) (hb : keyOk kk b = true) (hx : VR S φ a wx) (hy : VR S φ b wy) (he : vEq0 a b = true) : wx = wy ∧ ∀ n, Instr.sameBits n wx wx = true := by
  cases kk with
  | int k =>
    obtain ⟨n, rfl⟩ := keyOk_int ha
    obtain ⟨m, rfl⟩ := keyOk_int hb
    have := hx.int; subst this
    have := hy.int; subst this
    simp only [vEq0, kEq_self] at he
    rw [iEq_eq] at he
    have : n = m := by simpa using he
    subst this
    exact ⟨rfl, fun n => by cases n <;> simp [Instr.sameBits]⟩
  | str =>
    obtain ⟨n, n', rfl⟩ := keyOk_str ha
    obtain ⟨m, m', rfl⟩ := keyOk_str hb
    obtain ⟨s, rfl, h1⟩ := hx.str
    obtain ⟨t, rfl, h2⟩ := hy.str
    simp only [vEq0] at he
    rw [h1.eq_iff h2, ByteArray.toList_eq, ByteArray.toList_eq] at he
    have : s = t := ByteArray.ext (Array.toList_inj.1 (by simpa using he))
    subst this
    exact ⟨rfl, fun n => by cases n <;> simp [Instr.sameBits, bytes_beq]⟩
  | bool =>
    obtain ⟨p, rfl⟩ := keyOk_bool ha
    obtain ⟨q, rfl⟩ := keyOk_bool hb
    have := hx.bool; subst this
    have := hy.bool; subst this
    have : p = q := by cases p <;> cases q <;> first | rfl | cases he
    subst this
    exact ⟨rfl, fun n => by cases n <;> simp [Instr.sameBits]⟩
theorem stays_run {kk : KK} {a b : V} (ha : keyOk kk a = true) (hb : keyOk kk b = true) (hx : VR S φ a wx) (hy : VR S φ b wy) (he : vEq0 a b = true) : (Instr.keyThatStays wy wx).run P W = .ok wx W := by
  obtain ⟨rfl, h1⟩ := same_key ha hb hx hy he
  unfold Instr.keyThatStays
  rw [if_pos (h1 10000)]; rfl
def unitR (r : Result Unit) : Result Value := r.andThen fun _ w => .ok (.tuple #[]) w
theorem fMupd_run {t kt e : Nat} {ti ki : TI} {i i' d d' zz z'} (ht : TiOK P t ti i d zz) (hkt : TiOK P kt ki i' d' z') (hk : ti.d = .map kt e) {kk : KK} (hkk : kkOf ki.d = some kk)
    (r : RH S ty φ h W.heap) (hx : EvR S φ f l x wx) (hy : EvR S φ f l y wy) (hz : EvR S φ f l z wz) {h' : H} (hr : fMupd kk x y z f l h = some (v, h')) :
    EfA S ty φ h W v h' (unitR ((Instr.mapUpdate t wx wy wz).run P W)) := by
  have hd := ht.dr; rw [hk] at hd; simp only [DR] at hd; subst hd
  have hkd := kkOf_kkr hkt hkk
  obtain ⟨kv, h1, hr⟩ := ob_eq.1 hr
  obtain ⟨h2, hr⟩ := gd_eq.1 hr
  have hkv := hy _ h1
  rcases oMap hr with ⟨_, hr⟩ | ⟨b, h3, hr⟩
  · cases hr
  obtain ⟨vv, h4, hr⟩ := ob_eq.1 hr
  obtain ⟨h5, hr⟩ := gd_eq.1 hr
  obtain ⟨es, c, hb, hr⟩ := onMapO_eq.1 hr
  obtain ⟨q, h6, hr⟩ := ob_eq.1 hr
  obtain ⟨L, hL, rfl⟩ := (hx _ h3).map
  have hvv := hz _ h4
  obtain ⟨L', es', hL', h7, h8⟩ := r.rd.mapo hb
  rw [hL] at hL'; cases hL'
  cases q with
  | none =>
    dsimp only at hr
    rw [fN_eq, forceEs_eq, putO_eq] at hr
    cases hr
    have hrun : (Instr.mapUpdate t (.map (some L.c)) wy wz).run P W = .ok () (putW W L.c (.map (es'.push { key := wy, val := wz, born := c }) (c + 1))) := by
      simp only [Instr.mapUpdate, Sem.run_bind, ht.run_und, Result.andThen_ok, run_getObj_map h7, checkKey_run' hkt.und hkd, findKey_run hkt.und (find_none hkd h2 hkv 0 h8 h6), run_setObj_map h7]
    rw [hrun]
    refine EfA.put r hb (by simp) hL (OAt.map ?_) vrU
    rw [Array.toList_push]
    exact EsR.snoc (e' := { key := wy, val := wz, born := c }) hkv hvv h8
  | some u =>
    obtain ⟨j, x', n, e', g1, g2, g3, g4, g5, g6, g7, g8, g9, g10⟩ := find_some hkd h2 hkv 0 h8 h6
    dsimp only at hr
    rw [forceEs_eq, putO_eq] at hr
    cases hr
    have hj : es'[j]? = some e' := by rw [← Array.getElem?_toList]; exact g2
    rw [Nat.zero_add] at g3
    have hrun : (Instr.mapUpdate t (.map (some L.c)) wy wz).run P W = .ok () (putW W L.c (.map (es'.modify j fun e => { e with key := wy, val := wz }) c)) := by
      simp only [Instr.mapUpdate, Sem.run_bind, ht.run_und, Result.andThen_ok, run_getObj_map h7, checkKey_run' hkt.und hkd, findKey_run hkt.und g3, hj, Option.map_some, Option.getD_some, stays_run h2 g5 hkv g6 g4, run_setObj_map h7]
    rw [hrun]
    refine EfA.put r hb (by simp) hL (OAt.map ?_) vrU
    rw [g9]
    have hm : (es'.modify j fun e => { e with key := wy, val := wz }).toList = es'.toList.set j { key := wy, val := wz, born := e'.born } := by
      apply List.ext_getElem?
      intro i
      rw [Array.getElem?_toList, Array.getElem?_modify, List.getElem?_set]
      by_cases hi : j = i
      · subst hi
        have hlt : j < es'.toList.length := by
          rcases Nat.lt_or_ge j es'.toList.length with h' | h'
          · exact h'
          · rw [List.getElem?_eq_none h'] at g2; cases g2
        rw [if_pos rfl, if_pos rfl, if_pos hlt, hj]; rfl
      · rw [if_neg hi, if_neg hi, Array.getElem?_toList]
    rw [hm, ← g8]
    exact EsR.set (e' := { key := wy, val := wz, born := e'.born }) hkv hvv h8
theorem fDelete_run {t kt e u : Nat} {ti ki : TI} {i i' d d' zz z'} (ht : TiOK P t ti i d zz) (hkt : TiOK P kt ki i' d' z') (hk : ti.d = .map kt e) {kk : KK} (hkk : kkOf ki.d = some kk) {ts : Array Nat} (hts : ts[0]? = some t)
    (r : RH S ty φ h W.heap) (hx : EvR S φ f l x wx) (hy : EvR S φ f l y wy) {h' : H} (hr : fDelete kk x y f l h = some (v, h')) :
    EfA S ty φ h W v h' ((Builtin.delete_ ts u #[wx, wy]).run P W) := by
  have hd := ht.dr; rw [hk] at hd; simp only [DR] at hd; subst hd
  have hkd := kkOf_kkr hkt hkk
  obtain ⟨kv, h1, hr⟩ := ob_eq.1 hr
  obtain ⟨h2, hr⟩ := gd_eq.1 hr
  have hkv := hy _ h1
  have e0 : (#[wx, wy] : Array Value)[0]? = some wx := rfl
  have e1 : (#[wx, wy] : Array Value)[1]? = some wy := rfl
  rcases oMap hr with ⟨h3, hr⟩ | ⟨b, h3, hr⟩
  · cases hr
    have := (hx _ h3).nilm; subst this
    have hrun : (Builtin.delete_ ts u #[.map none, wy]).run P W = .ok (.tuple #[]) W := by
      simp only [Builtin.delete_, hts, e0, e1, Sem.run_bind, ht.run_und, Result.andThen_ok, checkKey_run' hkt.und hkd, Sem.run_pure]
    rw [hrun]; exact EfA.same r vrU
  · obtain ⟨es, c, hb, hr⟩ := onMapO_eq.1 hr
    obtain ⟨q, h6, hr⟩ := ob_eq.1 hr
    obtain ⟨L, hL, rfl⟩ := (hx _ h3).map
    obtain ⟨L', es', hL', h7, h8⟩ := r.rd.mapo hb
    rw [hL] at hL'; cases hL'
    cases q with
    | none =>
      cases hr
      have hrun : (Builtin.delete_ ts u #[.map (some L.c), wy]).run P W = .ok (.tuple #[]) W := by
        simp only [Builtin.delete_, hts, e0, e1, Sem.run_bind, ht.run_und, Result.andThen_ok, run_getObj_map h7, checkKey_run' hkt.und hkd, findKey_run hkt.und (find_none hkd h2 hkv 0 h8 h6), run_setObj_map h7, putW_self h7, Sem.run_pure]
      rw [hrun]; exact EfA.same r vrU
    | some u' =>
      obtain ⟨j, x', n, e', g1, g2, g3, g4, g5, g6, g7, g8, g9, g10⟩ := find_some hkd h2 hkv 0 h8 h6
      dsimp only at hr
      rw [forceEs_eq, putO_eq] at hr
      cases hr
      rw [Nat.zero_add] at g3
      have hrun : (Builtin.delete_ ts u #[.map (some L.c), wy]).run P W = .ok (.tuple #[]) (putW W L.c (.map (es'.eraseIdxIfInBounds j) c)) := by
        simp only [Builtin.delete_, hts, e0, e1, Sem.run_bind, ht.run_und, Result.andThen_ok, run_getObj_map h7, checkKey_run' hkt.und hkd, findKey_run hkt.und g3, run_setObj_map h7, Sem.run_pure]
      rw [hrun]
      refine EfA.put r hb (by simp) hL (OAt.map ?_) vrU
      rw [g10]
      have hm : (es'.eraseIdxIfInBounds j).toList = es'.toList.eraseIdx j := by
        have hlt : j < es'.size := by
          rcases Nat.lt_or_ge j es'.toList.length with h' | h'
          · simpa using h'
          · rw [List.getElem?_eq_none h'] at g2; cases g2
        rw [Array.eraseIdxIfInBounds, dif_pos hlt, Array.toList_eraseIdx]
      rw [hm]
      exact EsR.erase h8
theorem fClearM_run {t kt e u : Nat} {ti : TI} {i d zz} (ht : TiOK P t ti i d zz) (hk : ti.d = .map kt e) {ts : Array Nat} (hts : ts[0]? = some t)
    (r : RH S ty φ h W.heap) (hx : EvR S φ f l x wx) {h' : H} (hr : fClearM x f l h = some (v, h')) :
    EfA S ty φ h W v h' ((Builtin.clear_ ts u #[wx]).run P W) := by
  have hd := ht.dr; rw [hk] at hd; simp only [DR] at hd; subst hd
  have e0 : (#[wx] : Array Value)[0]? = some wx := rfl
  rcases oMap hr with ⟨h3, hr⟩ | ⟨b, h3, hr⟩
  · cases hr
    have := (hx _ h3).nilm; subst this
    have hrun : (Builtin.clear_ ts u #[.map none]).run P W = .ok (.tuple #[]) W := by
      simp only [Builtin.clear_, hts, e0, Sem.run_bind, ht.run_und, Result.andThen_ok, Sem.run_pure]
    rw [hrun]; exact EfA.same r vrU
  · obtain ⟨es, c, hb, hr⟩ := onMapO_eq.1 hr
    obtain ⟨L, hL, rfl⟩ := (hx _ h3).map
    obtain ⟨L', es', hL', h7, h8⟩ := r.rd.mapo hb
    rw [hL] at hL'; cases hL'
    rw [putO_eq] at hr; cases hr
    have hrun : (Builtin.clear_ ts u #[.map (some L.c)]).run P W = .ok (.tuple #[]) (putW W L.c (.map #[] c)) := by
      simp only [Builtin.clear_, hts, e0, Sem.run_bind, ht.run_und, Result.andThen_ok, Sem.run_pure, run_getObj_map h7, run_setObj_map h7]
    rw [hrun]
    exact EfA.put r hb (by simp) hL (OAt.map EsR.nil) vrU
theorem fRangeM_run {t kt e : Nat} {ti : TI} {i d zz} (ht : TiOK P t ti i d zz) (hk : ti.d = .map kt e) (r : RH S ty φ h W.heap) (hx : EvR S φ f l x wx) {h' : H} (hr : fRangeM x f l h = some (v, h')) :
    EfA S ty φ h W v h' ((Instr.range t wx).run P W) := by
  have hd := ht.dr; rw [hk] at hd; simp only [DR] at hd; subst hd
  have key : ∀ (o : Eng.Obj) (o' : Go.Obj), (∀ φ', Gro φ φ' → OAt S ty φ' o ⟨W.heap.size, 0, 0⟩ o') → (v, h') = (V.ptr h.next 0, (⟨h.next + 1, h.t.set h.next o⟩ : H)) →
      EfA S ty φ h W v h' (.ok (.pointer (some ⟨W.heap.size, 0, none⟩)) { W with heap := W.heap.push o' }) := by
    intro o o' ho e
    cases e
    have hx := Mp.ext_add (L := (⟨W.heap.size, 0, 0⟩ : Loc)) r.fresh
    refine ⟨φ.add h.next ⟨W.heap.size, 0, 0⟩, _, _, rfl, VR.mkPtr Mp.add_self, r.new rfl (ho _ hx), Fr.new r rfl rfl rfl rfl rfl⟩
  rcases oMap hr with ⟨h3, hr⟩ | ⟨b, h3, hr⟩
  · rw [newO_eq] at hr; cases hr
    have := (hx _ h3).nilm; subst this
    have hrun : (Instr.range t (.map none)).run P W = .ok (.pointer (some ⟨W.heap.size, 0, none⟩)) { W with heap := W.heap.push (.mapIter none 0 #[] 0) } := by
      simp [Instr.range, ht.run_und]
    rw [hrun]
    exact key (.miter none 0 [] 0) _ (fun φ' _ => OAt.miter0) rfl
  · obtain ⟨es, c, hb, hr⟩ := onMapO_eq.1 hr
    rw [newO_eq] at hr; cases hr
    obtain ⟨L, hL, rfl⟩ := (hx _ h3).map
    obtain ⟨L', es', hL', h7, h8⟩ := r.rd.mapo hb
    rw [hL] at hL'; cases hL'
    have hrun : (Instr.range t (.map (some L.c))).run P W = .ok (.pointer (some ⟨W.heap.size, 0, none⟩)) { W with heap := W.heap.push (.mapIter (some L.c) c #[] c) } := by
      simp [Instr.range, ht.run_und, run_getObj_map h7]
    rw [hrun]
    exact key (.miter (some b) c [] c) _ (fun φ' hg => OAt.miter (seen := []) (hg _ _ hL)) rfl
end
end Eng

/- What turns the heap: rows of cells, strings laid over bytes, strings walked through. -/
namespace Eng
open Go

section
variable {P : Program} {S : Sym} {ty : Nat → Option TI} {φ : Mp} {h : H} {W : World} {f : FT} {l : List V}
variable {v : V} {x y z : Ev} {wx wy wz : Value}

theorem RD.cellsAt (r : RD S ty φ h W.heap) {b n e fz : Nat} {t : T V} {sf : Bool} (hb : h.t.get b = some (.cells n t e fz sf)) {L : Loc} (hL : φ b = some L) {k o : Nat} {vs : List V} (hk : t.row k o = some vs) :
    ∃ ws : List Value, VRL S φ vs ws ∧ ws.length = k ∧ ∀ j w, ws[j]? = some w → W.cell? ⟨L.c, o + j, none⟩ = some w := by
  obtain ⟨h1, h2⟩ := T.row_eq hk
  have key : ∀ j, j < k → ∃ w, W.cell? ⟨L.c, o + j, none⟩ = some w ∧ ∀ v, vs[j]? = some v → VR S φ v w := by
    intro j hj
    have e : vs[j]? = some vs[j] := List.getElem?_eq_getElem (by omega)
    have := h2 j hj
    rw [e] at this
    obtain ⟨w, h3, h4⟩ := r.cell hb hL this
    exact ⟨w, h3, fun v hv => by rw [e] at hv; cases hv; exact h4⟩
  let g : Nat → Value := fun j => (W.cell? ⟨L.c, o + j, none⟩).getD (.tuple #[])
  refine ⟨(List.range k).map g, ?_, by simp, fun j w hj => ?_⟩
  · rw [← h1]
    refine VRL.of_fn fun i v hv => ?_
    have hi : i < k := by
      rcases Nat.lt_or_ge i vs.length with h' | h'
      · omega
      · simp [List.getElem?_eq_none h'] at hv
    obtain ⟨w, h3, h4⟩ := key i hi
    simp only [g, h3, Option.getD_some]; exact h4 v hv
  · have hjk : j < k := by
      rcases Nat.lt_or_ge j k with h' | h'
      · exact h'
      · rw [List.getElem?_eq_none (by simpa using h')] at hj; cases hj
    obtain ⟨w', h3, _⟩ := key j hjk
    have : some w = some (g j) := by rw [← hj]; simp [hjk]
    rw [h3]; cases this; simp [g, h3]
theorem slc_at {a : Addr} {L : Loc} {off cap' : Nat} (h7 : a.block = L.c) (h8 : a.spot = none) (h9 : cap' = 0 ∨ a.off = off) (hc : cap' ≠ 0) : a = ⟨L.c, off, none⟩ := by
  rw [addr_eta h7 h8]; rcases h9 with h9 | h9
  · omega
  · rw [h9]
theorem zeroCells_eq (z : Array Value) (n : Nat) : (Builtin.zeroCells z n).toList = repL z.toList n := rep_map z n
theorem fClearL_run {t e u : Nat} {ti ei : TI} {i i' d d' zz z'} (ht : TiOK P t ti i d zz) (he : TiOK P e ei i' d' z') (hk : ti.d = .slc e) {ts : Array Nat} (hts : ts[0]? = some t)
    (r : RH S ty φ h W.heap) (hx : EvR S φ f l x wx) {h' : H} (hr : fClearL ei.size ei.zero.cells x f l h = some (v, h')) :
    EfA S ty φ h W v h' ((Builtin.clear_ ts u #[wx]).run P W) := by
  have hd := ht.dr; rw [hk] at hd; simp only [DR] at hd; subst hd
  have e0 : (#[wx] : Array Value)[0]? = some wx := rfl
  rcases oSlc hr with ⟨h1, hr⟩ | ⟨b, off, len, cap, ex, h1, hr⟩
  · cases hr
    have := (hx _ h1).nils; subst this
    have hrun : (Builtin.clear_ ts u #[.slice none 0 0]).run P W = .ok (.tuple #[]) W := by
      simp only [Builtin.clear_, hts, e0, Sem.run_bind, ht.run_und, Result.andThen_ok, Sem.run_pure]
    rw [hrun]; exact EfA.same r vrU
  · obtain ⟨L, a, cap', hL, rfl, g1, g2, g3, g4, g5, g6⟩ := (hx _ h1).slc
    cases len with
    | zero =>
      cases hr
      have hrun : (Builtin.clear_ ts u #[.slice (some a) 0 cap']).run P W = .ok (.tuple #[]) W := by
        simp only [Builtin.clear_, hts, e0, Sem.run_bind, ht.run_und, Result.andThen_ok, Sem.run_pure]
      rw [hrun]; exact EfA.same r vrU
    | succ n =>
      obtain ⟨_, hr⟩ := gd_eq.1 hr
      have ha := slc_at g3 g4 g5 (by omega)
      subst ha
      obtain ⟨o, o2, o2', hb, hdd, ho, hr, hst, _⟩ := putCells_run (P := P) r hr hL (((he.vr S φ).cells he.any).rep (n + 1))
      cases hr
      have hrun : (Builtin.clear_ ts u #[.slice (some ⟨L.c, off, none⟩) (n + 1) cap']).run P W = .ok (.tuple #[]) (putW W L.c o2') := by
        simp only [Builtin.clear_, hts, e0, Sem.run_bind, ht.run_und, Result.andThen_ok, Sem.run_pure, he.run_zero, zeroCells_eq, hst]
      rw [hrun]
      exact EfA.put r hb hdd hL ho vrU

theorem lenV_run {a : V} {n : Nat} (hv : VR S φ a wx) (hn : lenV a = some n) : (Builtin.lenOf wx).run P W = .ok n W := by
  unfold lenV at hn
  split at hn
  · cases hn; have := hv.nils; subst this; rfl
  · cases hn; obtain ⟨L, a, c, _, rfl, _⟩ := hv.slc; rfl
  · cases hn; obtain ⟨s, rfl, h1⟩ := hv.str; rw [← h1.1]; rfl
  · cases hn
/-- The first cells of what is copied or appended. -/
theorem srcCells_run {β : Type} (r : RD S ty φ h W.heap) {es n m : Nat} {a : V} {k : List V → Option β} {res : β} (hr : srcCells h es n a k = some res) (hv : VR S φ a wx) (hm : lenV a = some m) (hn : n ≤ m) :
    ∃ cs ws, k cs = some res ∧ VRL S φ cs ws ∧ (Builtin.firstCells es n wx).run P W = .ok ws.toArray W ∧ ws.length = n * es := by
  unfold srcCells at hr
  split at hr
  · cases hm
    have := hv.nils; subst this
    have : n = 0 := by omega
    subst this
    exact ⟨[], [], hr, VRL.nil, rfl, by simp⟩
  · rename_i b off len cap ex
    cases hm
    obtain ⟨n', tr, e, fz, sf, hb, hr⟩ := onCells_eq.1 hr
    obtain ⟨cs, h1, hr⟩ := ob_eq.1 hr
    obtain ⟨L, a, cap', hL, rfl, g1, g2, g3, g4, g5, g6⟩ := hv.slc
    obtain ⟨ws, h2, h3, h4⟩ := r.cells (P := P) hb hL h1
    refine ⟨cs, ws, hr, h3, ?_, h4⟩
    show (loadCells a (n * es)).run P W = _
    rcases Nat.eq_zero_or_pos (n * es) with h0 | h0
    · have h0' : n.mul es = 0 := h0
      rw [h0'] at h4
      have : ws = [] := List.length_eq_zero_iff.1 h4
      rw [h0, this]; simp [loadCells, loadCellsFrom]
    · have hnpos : n ≠ 0 := by rintro rfl; simp at h0
      have ha := slc_at g3 g4 g5 (by omega)
      rw [ha]; exact h2
  · rename_i len val
    cases hm
    obtain ⟨h1, hr⟩ := gd_eq.1 hr
    obtain ⟨cs, h2, hr⟩ := ob_eq.1 hr
    rw [natBeq_eq] at h1
    obtain ⟨s, rfl, h3⟩ := hv.str
    obtain ⟨h5, h6⟩ := h3.pkl
    rw [← h5, ← h6] at h2
    obtain ⟨h7, h8⟩ := strCells_run (S := S) (φ := φ) h2 (by omega)
    refine ⟨cs, _, hr, h7, ?_, ?_⟩
    · show Result.ok _ W = _
      congr 1
      apply Array.toList_inj.1
      simp only [List.drop_zero, Array.toList_map, extract_list]; rfl
    · have hsz : s.data.toList.length = m := h5
      rw [h1, List.length_map, List.length_take, List.drop_zero]; omega
  · cases hr
theorem fCopy_run {t e u : Nat} {ti ei : TI} {i i' d d' zz z'} (ht : TiOK P t ti i d zz) (he : TiOK P e ei i' d' z') (hk : ti.d = .slc e) {ts : Array Nat} (hts : ts[0]? = some t)
    (r : RH S ty φ h W.heap) (hx : EvR S φ f l x wx) (hy : EvR S φ f l y wy) {h' : H} (hr : fCopy ei.size x y f l h = some (v, h')) :
    EfA S ty φ h W v h' ((Builtin.copy_ ts u #[wx, wy]).run P W) := by
  have hd := ht.dr; rw [hk] at hd; simp only [DR] at hd; subst hd
  have e0 : (#[wx, wy] : Array Value)[0]? = some wx := rfl
  have e1 : (#[wx, wy] : Array Value)[1]? = some wy := rfl
  obtain ⟨va, h1, hr⟩ := ob_eq.1 hr
  obtain ⟨vb, h2, hr⟩ := ob_eq.1 hr
  obtain ⟨n, h3, hr⟩ := ob_eq.1 hr
  have hva := hx _ h1
  have hvb := hy _ h2
  have hlen := lenV_run (P := P) (W := W) hvb h3
  rcases onSlc_eq.1 hr with ⟨e2, hr2⟩ | ⟨b, off, len, cap, ex, e2, hr2⟩
  · cases hr2
    rw [e2] at hva
    have := hva.nils; subst this
    have hfc : ∀ k, (Builtin.firstCells k 0 wy).run P W = .ok #[] W := by
      intro k
      unfold lenV at h3
      split at h3
      · have := hvb.nils; subst this; rfl
      · obtain ⟨L, a, c, _, rfl, _⟩ := hvb.slc; simp [Builtin.firstCells, loadCells, loadCellsFrom]
      · obtain ⟨s, rfl, _⟩ := hvb.str
        show Result.ok _ W = _
        congr 1
        apply Array.toList_inj.1
        simp
      · cases h3
    have hrun : (Builtin.copy_ ts u #[.slice none 0 0, wy]).run P W = .ok (.int .i64 (0 : Int)) W := by
      simp only [Builtin.copy_, hts, e0, e1, Sem.run_bind, ht.run_und, Result.andThen_ok, Sem.run_pure, hlen, he.run_size, show Nat.min n 0 = 0 from Nat.min_zero n, hfc]
      rfl
    rw [hrun]; exact EfA.same r VR.mkInt
  · rw [e2] at hva
    rw [fN_eq, min_eq] at hr2
    obtain ⟨L, a, cap', hL, rfl, g1, g2, g3, g4, g5, g6⟩ := hva.slc
    obtain ⟨cs, ws, hk2, h5, h6, h7⟩ := srcCells_run (P := P) r.rd hr2 hvb h3 (Nat.min_le_left n len)
    have hst0 := putCells_run (P := P) r hk2 hL h5
    obtain ⟨o, o2, o2', hb, hdd, ho, hr3, hst, n', t', e', fz', sf', ho0, hle⟩ := hst0
    cases hr3
    have hst' : (storeCells a ws).run P W = .ok () (putW W L.c o2') := by
      rcases Nat.eq_zero_or_pos cap' with h0 | h0
      · have hl0 : len = 0 := by omega
        subst hl0
        have hw : ws = [] := by
          apply List.length_eq_zero_iff.1; rw [h7]; simp
        subst hw
        simp only [storeCells, Sem.run_pure] at hst ⊢
        exact hst
      · rw [slc_at g3 g4 g5 (by omega)]; exact hst
    have hrun : (Builtin.copy_ ts u #[.slice (some a) len cap', wy]).run P W = .ok (.int .i64 ((min n len : Nat) : Int)) (putW W L.c o2') := by
      simp only [Builtin.copy_, hts, e0, e1, Sem.run_bind, ht.run_und, Result.andThen_ok, Sem.run_pure, hlen, he.run_size, show Nat.min n len = min n len from rfl, h6, hst', goInt]
    rw [hrun]
    exact EfA.put r hb hdd hL ho VR.mkInt

/-! ## Strings over bytes -/
theorem lies_at1 {u count o n : Nat} (hs : P.cellsOf u = 1) (hn : o + n ≤ count) : liesAt P P.depth u count o u n = true := by
  obtain ⟨d, hd⟩ := depth_succ P
  rw [hd]
  unfold liesAt
  rw [Bool.or_eq_true]
  left
  rw [hd]
  unfold rowAt
  have hf : sameLayout P (d + 1) u u = true := by
    unfold sameLayout; simp
  have h0 : ¬ P.cellsOf u = 0 := by omega
  rw [if_neg h0]
  simp only [hs, Nat.div_one, Nat.mod_one, hf, hn, beq_self_eq_true, decide_true, Bool.true_and, Bool.true_or]
/-- Of the arms of unsafe.String the first is taken. -/
theorem ustr_arms {α : Type} (p : Option Addr) (v : Value) (F : Option Addr → Value → α) (G : Array Value → α) : Builtin.unsafeString_.match_3 (fun _ => α) #[.pointer p, v] F G = F p v := rfl
theorem fUString_run {t e u : Nat} {ti ei : TI} {i i' d d' zz z'} (ht : TiOK P t ti i d zz) (he : TiOK P e ei i' d' z') (hk : ti.d = .ptr e) (hs : ei.size = 1) {ts : Array Nat} (hts : ts[0]? = some t)
    (r : RH S ty φ h W.heap) (hx : EvR S φ f l x wx) (hy : EvR S φ f l y wy) {h' : H} (hr : fUString e x y f l h = some (v, h')) :
    EfA S ty φ h W v h' ((Builtin.unsafeString_ ts u #[wx, wy]).run P W) := by
  have hd := ht.dr; rw [hk] at hd; simp only [DR] at hd; subst hd
  obtain ⟨kd, n, h1, hr⟩ := oNat hr
  obtain ⟨vp, h2, hr⟩ := ob_eq.1 hr
  obtain ⟨_, h3, hr⟩ := ob_eq.1 hr
  have := (hy _ h1).int; subst this
  have hvp := hx _ h2
  have hp : ∃ p, wx = .pointer p := by
    unfold isP at h3
    split at h3
    · exact ⟨_, hvp.nilp⟩
    · obtain ⟨L, _, rfl⟩ := hvp.ptr; exact ⟨_, rfl⟩
    · cases h3
  obtain ⟨p, rfl⟩ := hp
  cases n with
  | zero =>
    cases hr
    have hrun : (Builtin.unsafeString_ ts u #[.pointer p, .int kd (0 : Nat)]).run P W = .ok (.string .empty) W := by
      delta Builtin.unsafeString_
      rw [ustr_arms]
      have hmax : ¬ (((0 : Nat) : Int) > IntKind.i64.max) := by decide
      cases p <;> simp only [asInt, asIntOf, Sem.run_bind, Sem.run_pure, Result.andThen_ok, hts, hmax, if_false] <;> rfl
    rw [hrun]; exact EfA.same r (VR.mkStr ⟨rfl, rfl⟩)
  | succ n =>
    obtain ⟨b, off, e1, hr2⟩ := onPtr_eq.1 hr
    obtain ⟨m, tr, e', fz, sf, hb, hr3⟩ := onCells_eq.1 hr2
    obtain ⟨g1, hr4⟩ := gd_eq.1 hr3
    obtain ⟨g2, hr4'⟩ := gd_eq.1 hr4
    obtain ⟨g2', hr5⟩ := gd_eq.1 hr4'
    obtain ⟨vs, g3, hr6⟩ := ob_eq.1 hr5
    obtain ⟨val, g4, hr7⟩ := ob_eq.1 hr6
    obtain ⟨g5, hr8⟩ := gd_eq.1 hr7
    rw [fN_eq, putO_eq, mkS_eq] at hr8
    cases hr8
    rw [natBeq_eq] at g1
    rw [natBle_eq] at g2 g2'
    have g2' : n + 1 ≤ 281474976710656 := g2'
    have g2 : off + (n + 1) ≤ m := g2
    have g5 : sf = false := by simpa using g5
    subst g1; subst g5
    rw [e1] at hvp
    obtain ⟨L, hL, ep⟩ := hvp.ptr
    cases ep
    obtain ⟨L', arr, lo, hi, hL', q1, q2, q3, q4, q5, q6⟩ := r.rd.row hb
    rw [hL] at hL'; cases hL'
    have hsh := r.rd.shape hb hL
    obtain ⟨ws, g7, g8, g9⟩ := r.rd.cellsAt hb hL g3
    obtain ⟨bs, rfl, rfl⟩ := packV_run g7 g4
    have hbl : bs.length = n + 1 := by simpa using g8
    have hcell : ∀ j x, bs[j]? = some x → W.cell? ((⟨L.c, off, none⟩ : Addr).add j) = some (.int .u8 x.toNat) := by
      intro j x hj
      rw [add_at]
      exact g9 j _ (by rw [List.getElem?_map, hj]; rfl)
    have hload := Lib.run_loadBytes (P := P) W bs ⟨L.c, off, none⟩ .empty hcell
    rw [hbl] at hload
    have hlies : liesAt P P.depth e' (L.top / P.cellsOf e') off e' (n + 1) = true := lies_at1 (by rw [he.cells, hs]) (by rw [he.cells, hs, Nat.div_one]; omega)
    have hn63 : n + 1 < 2 ^ 63 := by omega
    have hmax : ¬ (((n + 1 : Nat) : Int) > IntKind.i64.max) := by
      have : IntKind.i64.max = 9223372036854775807 := by decide
      rw [this]; omega
    have hneg : ¬ (((n + 1 : Nat) : Int) < 0) := by omega
    have hz : ¬ (((n + 1 : Nat) : Int) = 0) := by omega
    have hrun : (Builtin.unsafeString_ ts u #[.pointer (some ⟨L.c, off, none⟩), .int kd ((n + 1 : Nat) : Int)]).run P W = .ok (.string ⟨bs.toArray⟩) (W.freeze ⟨L.c, off, none⟩ (n + 1)) := by
      delta Builtin.unsafeString_
      rw [ustr_arms]
      have hel : (elemOf t).run P W = .ok e' W := by simp [elemOf, ht.run_und]
      have hva : (variablesAt ⟨L.c, off, none⟩ e' (n + 1)).run P W = .ok true W := by simp [variablesAt, hsh, hlies]
      simp only [asInt, asIntOf, Sem.run_bind, Sem.run_pure, Result.andThen_ok, hts, hmax, hneg, hz, if_false, hel, Int.toNat_natCast, hva, if_true, hload, run_freeze]
      simp
    rw [hrun]
    have hfr : W.freeze ⟨L.c, off, none⟩ (n + 1) = putW W L.c (.cells arr e' (if lo == hi then (off, off + (n + 1)) else (min lo off, max hi (off + (n + 1))))) := by
      unfold World.freeze putW
      rw [if_neg (by omega)]
      congr 1
      apply Array.ext_getElem?
      intro i
      rw [Array.getElem?_modify, Array.getElem?_setIfInBounds]
      by_cases hi' : L.c = i
      · subst hi'
        have hlt : L.c < W.heap.size := by
          rcases Nat.lt_or_ge L.c W.heap.size with h' | h'
          · exact h'
          · rw [Array.getElem?_eq_none h'] at q1; cases q1
        rw [if_pos rfl, if_pos rfl, if_pos hlt, q1]; rfl
      · rw [if_neg hi', if_neg hi']
    rw [hfr]
    refine EfA.put r hb (by simp) hL ?_ (VR.mkStr ?_)
    · have hz0 : ∀ j, j < fz ∨ j < off + (n + 1) → j < bIf (Nat.ble (Nat.add off (n + 1)) fz) fz (Nat.add off (n + 1)) := by
        intro j hj
        cases hb' : Nat.ble (Nat.add off (n + 1)) fz with
        | true => rw [natBle_eq] at hb'; have hb' : off + (n + 1) ≤ fz := hb'; show j < fz; omega
        | false => rw [natBle_ne] at hb'; have hb' : fz < off + (n + 1) := hb'; show j < off + (n + 1); omega
      by_cases hlh : lo = hi
      · refine ⟨arr, off, off + (n + 1), ?_, q2, q3, q4, q5, fun j _ hj => .inl (hz0 j (.inr hj)), by omega⟩
        rw [if_pos (by simpa using hlh)]
      · refine ⟨arr, min lo off, max hi (off + (n + 1)), ?_, q2, q3, q4, q5, fun j hj hj' => .inl (hz0 j ?_), by omega⟩
        · rw [if_neg (by simpa using hlh)]
        · rcases Nat.lt_or_ge j (off + (n + 1)) with h1 | h1
          · exact .inr h1
          · have h2 : j < hi := by omega
            by_cases h3 : lo ≤ j
            · rcases q6.1 j h3 h2 with h4 | h4
              · exact .inl h4
              · simp at h4
            · have h4 : lo < hi := by omega
              rcases q6.1 (hi - 1) (by omega) (by omega) with h5 | h5
              · exact .inl (by omega)
              · simp at h5
    · rw [← hbl]; exact SR.mk'
end
end Eng

/- Appending: what the model answers. -/
namespace Eng
open Go

theorem grow_le (n : Nat) : ∀ (r c : Nat), 256 ≤ c → c ≤ 2 * n → Builtin.growBy n r c ≤ 2 * n
  | 0, c, _, h => h
  | r + 1, c, h0, h => by
    unfold Builtin.growBy
    split
    · exact h
    · exact grow_le n r _ (by omega) (by omega)
theorem next_le {n o : Nat} (h : o < n) : Builtin.nextslicecap n o ≤ 2 * n := by
  unfold Builtin.nextslicecap
  split
  · omega
  · split
    · omega
    · exact grow_le n 4 o (by omega) (by omega)

section
variable {P : Program} {W : World} {t tx e u : Nat} {ti ei : TI} {i i' d' zz z'} {ts : Array Nat}

theorem app_room (ht : TiOK P t ti i (.slice e) zz) (he : TiOK P e ei i' d' z') (h0 : ts[0]? = some t) (h1 : ts[1]? = some tx) {dx : TypeDesc} (hni : (∃ e', dx = .slice e') ∨ dx = .string) (hx : P.underlying tx = some dx)
    {base : Option Addr} {sLen sCap n : Nat} {x : Value} {news : List Value} (hlen : (Builtin.lenOf x).run P W = .ok n W) (hcells : (Builtin.firstCells ei.size n x).run P W = .ok news.toArray W) (hroom : sLen + n ≤ sCap)
    {W' : World} (hst : ∀ a, base = some a → (storeCells (a.add (sLen * ei.size)) news).run P W = .ok () W') (hno : base = none → W' = W) :
    (Builtin.append_ ts u #[.slice base sLen sCap, x]).run P W = .ok (.slice base (sLen + n) sCap) W' := by
  rcases hni with ⟨e', rfl⟩ | rfl
  all_goals
    cases base with
    | none =>
      have := hno rfl; subst this
      simp [Builtin.append_, h0, h1, ht.run_und, run_underlying hx, he.run_size, hlen, hroom, hcells]
    | some a =>
      simp [Builtin.append_, h0, h1, ht.run_und, run_underlying hx, he.run_size, hlen, hroom, hcells, hst a rfl]
theorem app_grow (ht : TiOK P t ti i (.slice e) zz) (he : TiOK P e ei i' d' z') (h0 : ts[0]? = some t) (h1 : ts[1]? = some tx) {dx : TypeDesc} (hni : (∃ e', dx = .slice e') ∨ dx = .string) (hx : P.underlying tx = some dx)
    {base : Option Addr} {sLen sCap n : Nat} {x : Value} {olds news : List Value} (hlen : (Builtin.lenOf x).run P W = .ok n W)
    (hcells : ∀ k, (Builtin.firstCells ei.size n x).run P { W with drawn := k } = .ok news.toArray { W with drawn := k })
    (holds : ∀ k, (Builtin.firstCells ei.size sLen (.slice base sLen sCap)).run P { W with drawn := k } = .ok olds.toArray { W with drawn := k })
    (hg : sCap < sLen + n) (hfit : 4 * (sLen + n) * (ei.bytes + 1) ≤ 281474976710656) :
    ∃ cap k, sLen + n ≤ cap ∧ cap < 2 ^ 63 ∧ (Builtin.append_ ts u #[.slice base sLen sCap, x]).run P W =
      .ok (.slice (some ⟨W.heap.size, 0, none⟩) (sLen + n) cap) { W with heap := W.heap.push (.cells ((olds ++ news).toArray ++ Builtin.zeroCells z'.cells (cap - (sLen + n))) e), drawn := k } := by
  have hb : 4 * (sLen + n) * 1 ≤ 4 * (sLen + n) * (ei.bytes + 1) := Nat.mul_le_mul_left _ (by omega)
  have hb2 : Builtin.nextslicecap (sLen + n) sCap * ei.bytes ≤ 4 * (sLen + n) * (ei.bytes + 1) := Nat.mul_le_mul (by have := next_le hg; omega) (by omega)
  obtain ⟨cap, hcap, hc1, hc2⟩ : ∃ cap, Question.cut (.appendCap (sLen + n) sCap e) (W.tape W.drawn (.appendCap (sLen + n) sCap e)) = cap ∧ sLen + n ≤ cap ∧ cap < 2 ^ 63 := by
    refine ⟨_, rfl, ?_, ?_⟩
    · simp only [Question.cut]; omega
    · simp only [Question.cut]
      have := Nat.mod_lt (W.tape W.drawn (.appendCap (sLen + n) sCap e)) (show 0 < 2 ^ 63 - (sLen + n) by omega)
      omega
  have hch : (choose (.appendCap (sLen + n) sCap e)).run P W = .ok cap W.drew := by
    rw [run_choose, if_neg (by simp [Question.forced]), hcap]; rfl
  refine ⟨cap, W.drawn + 1, hc1, hc2, ?_⟩
  · have hn : ¬ (sLen + n ≤ sCap) := by omega
    have h63' : ¬ (9223372036854775807 < ((sLen : Int) + (n : Int))) := by omega
    have h48' : ¬ (281474976710656 < Builtin.nextslicecap (sLen + n) sCap * ei.bytes) := by omega
    have hinfo := fun k => he.run_info (W := { W with drawn := k })
    have hc := hcells (W.drawn + 1)
    have ho := holds (W.drawn + 1)
    have hz := he.run_zero (W := { W with drawn := W.drawn + 1 })
    simp only [World.drew_eq] at hc ho hz
    rcases hni with ⟨e', rfl⟩ | rfl
    all_goals
      simp [Builtin.append_, h0, h1, ht.run_und, run_underlying hx, he.run_size, hlen, hn, he.run_info, he.bytes, h63', h48', hch, hc, ho, hz, Go.newRow, -run_choose]
      rw [show olds.toArray ++ (news.toArray ++ Builtin.zeroCells z'.cells (cap - (sLen + n))) = (olds ++ news).toArray ++ Builtin.zeroCells z'.cells (cap - (sLen + n)) from by apply Array.toList_inj.1; simp]
      rfl

/-- What stands for n zero elements. -/
theorem zeros_run (he : TiOK P e ei i' d' z') (n : Nat) : ((if n * ei.size = 0 then pure #[] else do pure (Builtin.zeroCells (← zeroValue e).cells n) : Sem (Array Value))).run P W = .ok (repL z'.cells.toList n).toArray W := by
  split
  · rename_i h
    have : repL z'.cells.toList n = [] := by
      apply List.length_eq_zero_iff.1; rw [repL_length]; simp [he.zlen, h]
    rw [this]; rfl
  · simp only [Sem.run_bind, he.run_zero, Result.andThen_ok, Sem.run_pure]
    congr 1
    apply Array.toList_inj.1
    rw [zeroCells_eq]
theorem app_room0 (ht : TiOK P t ti i (.slice e) zz) (he : TiOK P e ei i' d' z') (h0 : ts[0]? = some t) (h1 : ts[1]? = some tx) {kx : IntKind} (hx : P.underlying tx = some (.int kx))
    {base : Option Addr} {sLen sCap n : Nat} {k : IntKind} (hn : n * (ei.bytes + 1) ≤ 281474976710656) (hroom : sLen + n ≤ sCap)
    {W' : World} (hst : ∀ a, base = some a → (storeCells (a.add (sLen * ei.size)) (repL z'.cells.toList n)).run P W = .ok () W') (hno : base = none → W' = W) :
    (Builtin.append_ ts u #[.slice base sLen sCap, .int k n]).run P W = .ok (.slice base (sLen + n) sCap) W' := by
  have hb : n * 1 ≤ n * (ei.bytes + 1) := Nat.mul_le_mul_left _ (by omega)
  have hb2 : n * ei.bytes ≤ n * (ei.bytes + 1) := Nat.mul_le_mul_left _ (by omega)
  have w1 : IntKind.i64.wrap (n : Int) = n := wrap_id (by omega) (by omega)
  have c0 : ¬ ((n : Int) < 0) := by omega
  have c1 : ¬ (281474976710656 < (n : Int) * (ei.bytes : Int)) := by
    have : (n : Int) * (ei.bytes : Int) = ((n * ei.bytes : Nat) : Int) := by push_cast; rfl
    rw [this]; omega
  have hz := zeros_run (W := W) he n
  simp only [Sem.run_ite] at hz
  cases base with
  | none =>
    have := hno rfl; subst this
    by_cases hq : n * ei.size = 0
    · simp [Builtin.append_, h0, h1, ht.run_und, run_underlying hx, he.run_size, asInt, asIntOf, w1, c0, he.run_info, he.bytes, c1, hroom, hq]
    · simp [Builtin.append_, h0, h1, ht.run_und, run_underlying hx, he.run_size, asInt, asIntOf, w1, c0, he.run_info, he.bytes, c1, hroom, he.run_zero]
  | some a =>
    have hs := hst a rfl
    by_cases hq : n * ei.size = 0
    · have hnil : repL z'.cells.toList n = [] := by
        apply List.length_eq_zero_iff.1; rw [repL_length]; simp [he.zlen, hq]
      rw [hnil] at hs
      simp [Builtin.append_, h0, h1, ht.run_und, run_underlying hx, he.run_size, asInt, asIntOf, w1, c0, he.run_info, he.bytes, c1, hroom, hq, hs]
    · simp [Builtin.append_, h0, h1, ht.run_und, run_underlying hx, he.run_size, asInt, asIntOf, w1, c0, he.run_info, he.bytes, c1, hroom, hq, he.run_zero, zeroCells_eq, hs]
theorem app_grow0 (ht : TiOK P t ti i (.slice e) zz) (he : TiOK P e ei i' d' z') (h0 : ts[0]? = some t) (h1 : ts[1]? = some tx) {kx : IntKind} (hx : P.underlying tx = some (.int kx))
    {base : Option Addr} {sLen sCap n : Nat} {k : IntKind} {olds : List Value}
    (holds : ∀ k, (Builtin.firstCells ei.size sLen (.slice base sLen sCap)).run P { W with drawn := k } = .ok olds.toArray { W with drawn := k })
    (hg : sCap < sLen + n) (hfit : 4 * (sLen + n) * (ei.bytes + 1) ≤ 281474976710656) :
    ∃ cap q, sLen + n ≤ cap ∧ cap < 2 ^ 63 ∧ (Builtin.append_ ts u #[.slice base sLen sCap, .int k n]).run P W =
      .ok (.slice (some ⟨W.heap.size, 0, none⟩) (sLen + n) cap) { W with heap := W.heap.push (.cells ((olds ++ repL z'.cells.toList n).toArray ++ Builtin.zeroCells z'.cells (cap - (sLen + n))) e), drawn := q } := by
  have hb : 4 * (sLen + n) * 1 ≤ 4 * (sLen + n) * (ei.bytes + 1) := Nat.mul_le_mul_left _ (by omega)
  have hb2 : Builtin.nextslicecap (sLen + n) sCap * ei.bytes ≤ 4 * (sLen + n) * (ei.bytes + 1) := Nat.mul_le_mul (by have := next_le hg; omega) (by omega)
  have hb3 : n * ei.bytes ≤ 4 * (sLen + n) * (ei.bytes + 1) := Nat.mul_le_mul (by omega) (by omega)
  have w1 : IntKind.i64.wrap (n : Int) = n := wrap_id (by omega) (by omega)
  have c0 : ¬ ((n : Int) < 0) := by omega
  have c1 : ¬ (281474976710656 < (n : Int) * (ei.bytes : Int)) := by
    have : (n : Int) * (ei.bytes : Int) = ((n * ei.bytes : Nat) : Int) := by push_cast; rfl
    rw [this]; omega
  obtain ⟨cap, hcap, hc1, hc2⟩ : ∃ cap, Question.cut (.appendCap (sLen + n) sCap e) (W.tape W.drawn (.appendCap (sLen + n) sCap e)) = cap ∧ sLen + n ≤ cap ∧ cap < 2 ^ 63 := by
    refine ⟨_, rfl, ?_, ?_⟩
    · simp only [Question.cut]; omega
    · simp only [Question.cut]
      have := Nat.mod_lt (W.tape W.drawn (.appendCap (sLen + n) sCap e)) (show 0 < 2 ^ 63 - (sLen + n) by omega)
      omega
  have hch : (choose (.appendCap (sLen + n) sCap e)).run P W = .ok cap W.drew := by
    rw [run_choose, if_neg (by simp [Question.forced]), hcap]; rfl
  refine ⟨cap, W.drawn + 1, hc1, hc2, ?_⟩
  have hn : ¬ (sLen + n ≤ sCap) := by omega
  have h63' : ¬ (9223372036854775807 < ((sLen : Int) + (n : Int))) := by omega
  have h48' : ¬ (281474976710656 < Builtin.nextslicecap (sLen + n) sCap * ei.bytes) := by omega
  have ho := holds (W.drawn + 1)
  have hz := he.run_zero (W := { W with drawn := W.drawn + 1 })
  simp only [World.drew_eq] at ho hz
  by_cases hq : n * ei.size = 0
  · have hnil : repL z'.cells.toList n = [] := by
      apply List.length_eq_zero_iff.1; rw [repL_length]; simp [he.zlen, hq]
    rw [hnil]
    simp [Builtin.append_, h0, h1, ht.run_und, run_underlying hx, he.run_size, asInt, asIntOf, w1, c0, c1, hn, he.run_info, he.bytes, h63', h48', hq, hch, ho, hz, Go.newRow, -run_choose]
    rfl
  · simp [Builtin.append_, h0, h1, ht.run_und, run_underlying hx, he.run_size, asInt, asIntOf, w1, c0, c1, hn, he.run_info, he.bytes, h63', h48', hq, hch, ho, hz, Go.newRow, -run_choose]
    rw [show olds.toArray ++ (Builtin.zeroCells z'.cells n ++ Builtin.zeroCells z'.cells (cap - (sLen + n))) = (olds ++ repL z'.cells.toList n).toArray ++ Builtin.zeroCells z'.cells (cap - (sLen + n)) from by apply Array.toList_inj.1; simp [zeroCells_eq]]
    rfl
end
end Eng

/- Appending: what the engine says of it. -/
namespace Eng
open Go

section
variable {P : Program} {S : Sym} {ty : Nat → Option TI} {φ : Mp} {h : H} {W : World} {f : FT} {l : List V}
variable {v : V} {x y z : Ev} {wx wy wz : Value}

theorem row_pre {cs : List V} {ws : List Value} {extra : Array Value} {e c : Nat} {o : Eng.Obj} (hc : VRL S φ cs ws) (hr : rowObj e cs = some o) : OAt S ty φ o ⟨c, (ws.toArray ++ extra).size, esOf ty e⟩ (.cells (ws.toArray ++ extra) e) := by
  unfold rowObj at hr
  rw [fN_eq, T.fc_eq, lenL_zero] at hr
  cases hr
  have hl := hc.length
  refine ⟨_, 0, 0, rfl, rfl, by show cs.length ≤ _; simp; omega, fun ti h => esOf_eq h, fun i v hv => ?_, fun j _ h => by omega, Nat.le_refl _⟩
  rw [ofL_at] at hv
  obtain ⟨w, h1, h2⟩ := hc.get hv
  have hi : i < cs.length := by
    rcases Nat.lt_or_ge i cs.length with h' | h'
    · exact h'
    · simp [List.getElem?_eq_none h'] at hv
  refine ⟨hi, w, ?_, h2⟩
  rw [Array.getElem?_append_left (by simp; omega)]
  simpa using h1
theorem Fr.kill (b : Nat) : Fr φ h W φ ⟨h.next, h.t.set b .dead⟩ W := by
  have lv : ∀ {x : Nat}, Live ⟨h.next, h.t.set b .dead⟩ x → Live h x := by
    rintro x ⟨p, e, nd⟩
    rw [T.get_set] at e
    by_cases hx : x = b
    · rw [if_pos hx] at e; cases e; exact absurd rfl nd
    · rw [if_neg hx] at e; exact ⟨p, e, nd⟩
  refine ⟨Gro.refl φ, fun _ _ => rfl, fun x _ l => lv l, Nat.le_refl _, Nat.le_refl _, rfl, rfl, rfl, fun c hc n => ⟨rfl, ?_⟩⟩
  rintro ⟨x, M, lx, e, rfl⟩
  exact n ⟨x, M, lv lx, e, rfl⟩
theorem Fr.move (r : RH S ty φ h W.heap) {b : Nat} {L M : Loc} {o o2 : Eng.Obj} {W' : World} (hb : h.t.get b = some o) (hd : o ≠ .dead) (hL : φ b = some L) (hM : M.c = L.c) (hs : W'.heap.size = W.heap.size) (hk : ∀ c, c ≠ L.c → W'.heap[c]? = W.heap[c]?)
    (ht : W'.tape = W.tape) (hos : W'.os = W.os) (ho : W'.output = W.output) : Fr φ h W (φ.add h.next M) ⟨h.next + 1, (h.t.set b .dead).set h.next o2⟩ W' := by
  have lv : ∀ {x : Nat}, Live ⟨h.next + 1, (h.t.set b .dead).set h.next o2⟩ x → x = h.next ∨ Live h x := by
    rintro x ⟨p, e, nd⟩
    rw [T.get_set, T.get_set] at e
    by_cases h1 : x = h.next
    · exact .inl h1
    · rw [if_neg h1] at e
      by_cases h2 : x = b
      · rw [if_pos h2] at e; cases e; exact absurd rfl nd
      · rw [if_neg h2] at e; exact .inr ⟨p, e, nd⟩
  refine ⟨Mp.ext_add r.fresh, fun x hx => by unfold Mp.add; rw [if_neg (by omega)], fun x hx lx => ?_, by simp, by omega, ht, hos, ho, fun c hc n => ?_⟩
  · rcases lv lx with h1 | h1
    · omega
    · exact h1
  · have hne : c ≠ L.c := fun hcc => n ⟨b, L, ⟨o, hb, hd⟩, hL, hcc.symm⟩
    refine ⟨hk c hne, ?_⟩
    rintro ⟨x, N, lx, e, rfl⟩
    by_cases h1 : x = h.next
    · subst h1; rw [Mp.add_self] at e; cases e; exact hne hM
    · unfold Mp.add at e; rw [if_neg h1] at e
      rcases lv lx with h2 | h2
      · exact h1 h2
      · exact n ⟨x, N, h2, e, rfl⟩
/-- A slice over a new row. -/
theorem VR.newOpen {b need cap : Nat} {L : Loc} (hb : φ b = some L) (h1 : need ≤ cap) (h2 : cap < 2 ^ 63) (h3 : cap * L.es = L.top) : VR S φ (.slc b 0 need 0 false) (.slice (some ⟨L.c, 0, none⟩) need cap) := by
  unfold VR; exact ⟨L, _, cap, hb, rfl, h1, h2, rfl, rfl, .inr rfl, by simp; exact h3⟩

/-- What the model answers to an append: in its room, or in a new row. -/
structure AppA (P : Program) (W : World) (e es bytes : Nat) (z : Value) (base : Option Addr) (sLen sCap n : Nat) (news : List Value) (res : Result Value) : Prop where
  room : sLen + n ≤ sCap → ∀ W', (∀ a, base = some a → (storeCells (a.add (sLen * es)) news).run P W = .ok () W') → (base = none → W' = W) → res = .ok (.slice base (sLen + n) sCap) W'
  grow : ∀ olds : List Value, (∀ k, (Builtin.firstCells es sLen (.slice base sLen sCap)).run P { W with drawn := k } = .ok olds.toArray { W with drawn := k }) → sCap < sLen + n → 4 * (sLen + n) * (bytes + 1) ≤ 281474976710656 →
    ∃ cap q, sLen + n ≤ cap ∧ cap < 2 ^ 63 ∧ res = .ok (.slice (some ⟨W.heap.size, 0, none⟩) (sLen + n) cap) { W with heap := W.heap.push (.cells ((olds ++ news).toArray ++ Builtin.zeroCells z.cells (cap - (sLen + n))) e), drawn := q }

theorem olds_run {c o len es cap' : Nat} {olds : List Value} {a : Addr} (ha : len * es = 0 ∨ a = ⟨c, o, none⟩) (hl : olds.length = len * es) (hc : ∀ j w, olds[j]? = some w → W.cell? ⟨c, o + j, none⟩ = some w) (k : Nat) :
    (Builtin.firstCells es len (.slice (some a) len cap')).run P { W with drawn := k } = .ok olds.toArray { W with drawn := k } := by
  show (loadCells a (len * es)).run P _ = _
  rcases ha with h0 | rfl
  · rw [h0] at hl ⊢
    have : olds = [] := List.length_eq_zero_iff.1 hl
    subst this
    simp [loadCells, loadCellsFrom]
  · rw [← hl]
    exact run_loadCells_list _ _ _ fun j w hj => by rw [add_at]; exact hc j w hj
theorem zsize {z : Array Value} (n : Nat) : (Builtin.zeroCells z n).size = n * z.size := by
  have := congrArg List.length (zeroCells_eq z n)
  rw [repL_length] at this
  simpa using this
/-- A new row, of what was there and what comes. -/
theorem app_new {e es : Nat} {ei : TI} {i' d' z'} (he : TiOK P e ei i' d' z') (hte : ty e = some ei) (hes : es = ei.size) (r : RH S ty φ h W.heap) {old new : List V} {olds news : List Value} (ho : VRL S φ old olds) (hn : VRL S φ new news)
    {len n : Nat} (hlo : olds.length = len * es) (hln : news.length = n * es) {o : Eng.Obj} (hro : rowObj e (old ++ new) = some o) {cap q : Nat} (h1 : len + n ≤ cap) (h2 : cap < 2 ^ 63) :
    EfA S ty φ h W (.slc h.next 0 (len + n) 0 false) ⟨h.next + 1, h.t.set h.next o⟩
      (.ok (.slice (some ⟨W.heap.size, 0, none⟩) (len + n) cap) { W with heap := W.heap.push (.cells ((olds ++ news).toArray ++ Builtin.zeroCells z'.cells (cap - (len + n))) e), drawn := q }) := by
  let L : Loc := ⟨W.heap.size, ((olds ++ news).toArray ++ Builtin.zeroCells z'.cells (cap - (len + n))).size, esOf ty e⟩
  have hx := Mp.ext_add (L := L) r.fresh
  refine ⟨φ.add h.next L, _, _, rfl, ?_, r.new (L := L) rfl (row_pre ((ho.append hn).mono hx) hro), Fr.new r (L := L) rfl rfl rfl rfl rfl⟩
  refine VR.newOpen (L := L) Mp.add_self h1 h2 ?_
  show cap * esOf ty e = ((olds ++ news).toArray ++ Builtin.zeroCells z'.cells (cap - (len + n))).size
  rw [esOf_eq hte, Array.size_append, zsize, he.zlen]
  simp only [List.size_toArray, List.length_append, hlo, hln, hes]
  rw [← Nat.add_mul, ← Nat.add_mul]
  congr 1; omega

theorem doAppend_run {e : Nat} {ei : TI} {i' d' z'} (he : TiOK P e ei i' d' z') (hte : ty e = some ei) (r : RH S ty φ h W.heap) {s : V} {n : Nat} {new : List V} {news : List Value} (hn : VRL S φ new news) (hln : news.length = n * ei.size)
    {base : Option Addr} {sLen sCap : Nat} (hs : VR S φ s (.slice base sLen sCap)) {h' : H} (hr : doAppend h e ei.size ei.bytes s n new = some (v, h')) {res : Result Value} (ha : AppA P W e ei.size ei.bytes z' base sLen sCap n news res) :
    EfA S ty φ h W v h' res := by
  rcases onSlc_eq.1 hr with ⟨es, hr⟩ | ⟨b, off, len, cap, ex, es, hr⟩
  · rw [es] at hs
    have e0 := hs.nils
    injection e0 with e1 e2 e3
    subst e1; subst e2; subst e3
    cases n with
    | zero =>
      cases hr
      rw [ha.room (by omega) W (fun a ha => by cases ha) fun _ => rfl]
      exact EfA.same r (by unfold VR; rfl)
    | succ n =>
      obtain ⟨h1, hr⟩ := gd_eq.1 hr
      obtain ⟨o, h2, hr⟩ := ob_eq.1 hr
      rw [newO_eq] at hr; cases hr
      rw [natBle_eq] at h1
      have h1 : 4 * (n + 1) * (ei.bytes + 1) ≤ 281474976710656 := h1
      obtain ⟨cap, q, h3, h4, h5⟩ := ha.grow [] (fun k => rfl) (by omega) (by rw [Nat.zero_add]; exact h1)
      rw [h5]
      have := app_new (h := h) he hte rfl r (VRL.nil) hn (len := 0) (n := n + 1) (by simp) hln (by simpa using h2) h3 h4 (q := q)
      simpa using this
  · rw [es] at hs
    obtain ⟨L, a, cap', hL, e0, g1, g2, g3, g4, g5, g6⟩ := hs.slc
    injection e0 with e1 e2 e3
    subst e1; subst e2; subst e3
    obtain ⟨h1, hr⟩ := gd_eq.1 hr
    rw [fN_eq] at hr
    obtain ⟨bn, t, be, fz, sf, hb, hr⟩ := onCells_eq.1 hr
    obtain ⟨h2, hr⟩ := gd_eq.1 hr
    rw [natBlt_eq] at h1
    rw [natBeq_eq] at h2
    subst h2
    obtain ⟨L', arr, lo, hi, hL', q1, q2, q3, q4, q5, q6⟩ := r.rd.row hb
    rw [hL] at hL'; cases hL'
    have hLes := q4 _ hte
    have hneed : Nat.add sLen n = sLen + n := rfl
    rw [hneed] at hr
    cases hro : Nat.ble (sLen + n) (bIf ex cap (capLo bn off ei.size)) with
    | true =>
      rw [hro] at hr
      rw [natBle_eq] at hro
      have hcap : sLen + n ≤ sCap := by
        cases ex with
        | true => simp at g6; subst g6; exact hro
        | false =>
          simp at g6
          refine Nat.le_trans hro ?_
          show (bn - off) / ei.size ≤ sCap
          rw [← hLes]
          apply Nat.div_le_of_le_mul
          rw [Nat.mul_comm]; omega
      obtain ⟨o, o2, o2', hb', hdd, ho, hr3, hst, _⟩ := putCells_run (P := P) r hr hL hn
      cases hr3
      have hst' : ∀ a', some a = some a' → (storeCells (a'.add (sLen * ei.size)) news).run P W = .ok () (putW W L.c o2') := by
        intro a' ea; cases ea
        rcases Nat.eq_zero_or_pos sCap with h0 | h0
        · have hw : news = [] := by
            apply List.length_eq_zero_iff.1; rw [hln, show n = 0 from by omega]; simp
          subst hw
          simp only [storeCells, Sem.run_pure] at hst ⊢
          exact hst
        · rw [slc_at g3 g4 g5 (by omega), add_at]; exact hst
      rw [ha.room hcap _ hst' fun h => by cases h]
      refine EfA.put r hb' hdd hL ho ?_
      unfold VR
      exact ⟨L, a, sCap, hL, rfl, hcap, g2, g3, g4, g5, g6⟩
    | false =>
      rw [hro] at hr
      rw [natBle_ne] at hro
      obtain ⟨h3, hrA⟩ := gd_eq.1 hr
      rw [natBle_eq] at h3
      have h3 : 4 * (sLen + n) * (ei.bytes + 1) ≤ 281474976710656 := h3
      cases ex with
      | true =>
        simp at g6; subst g6
        have hro : sCap < sLen + n := hro
        obtain ⟨old, h4, hrB⟩ := ob_eq.1 hrA
        obtain ⟨o, h5, hrC⟩ := ob_eq.1 hrB
        rw [newO_eq] at hrC; cases hrC
        obtain ⟨olds, k1, k2, k3⟩ := r.rd.cellsAt hb hL h4
        have k2 : olds.length = sLen * ei.size := k2
        have hao : sLen * ei.size = 0 ∨ a = ⟨L.c, off, none⟩ := by
          rcases Nat.eq_zero_or_pos sCap with h0 | h0
          · left; rw [show sLen = 0 from by omega, Nat.zero_mul]
          · right; exact slc_at g3 g4 g5 (by omega)
        obtain ⟨cap, q, k4, k5, k6⟩ := ha.grow olds (olds_run hao k2 k3) hro h3
        rw [k6]
        exact app_new he hte rfl r k1 hn k2 hln h5 k4 k5
      | false =>
        obtain ⟨h4, hrB⟩ := gd_eq.1 hrA
        cases hoff : Nat.beq off 0 with
        | false => rw [hoff] at hrB; cases hrB
        | true =>
          rw [hoff] at hrB
          rw [natBeq_eq] at hoff
          subst hoff
          simp at g6
          have hr : (fN (Nat.mul sLen ei.size) fun at_ => gd (Nat.ble fz at_) (gd (Nat.ble at_ bn) (T.fc (T.setL new t at_) fun t => fN (Nat.mul (sLen + n) ei.size) fun m => putO h b .dead fun h => newO h (.cells m t be fz sf) fun c h => some (V.slc c 0 (sLen + n) 0 false, h)))) = some (v, h') := hrB
          rw [fN_eq] at hr
          obtain ⟨h5, hr⟩ := gd_eq.1 hr
          obtain ⟨h6, hr⟩ := gd_eq.1 hr
          rw [T.fc_eq, fN_eq, putO_eq, newO_eq] at hr
          cases hr
          rw [natBle_eq] at h5 h6
          have h5 : fz ≤ sLen * ei.size := h5
          have h6 : sLen * ei.size ≤ bn := h6
          have hlen := hn.length
          have hro : (bn - 0) / ei.size < sLen + n := hro
          rw [Nat.sub_zero] at hro
          have hbn : bn < (sLen + n) * ei.size := (Nat.div_lt_iff_lt_mul h1).1 hro
          have hm : sLen * ei.size + new.length = (sLen + n) * ei.size := by rw [← hlen, hln, Nat.add_mul]
          have hpos : sCap ≠ 0 ∨ sLen = 0 := by omega
          have hao : sLen * ei.size = 0 ∨ a = ⟨L.c, 0, none⟩ := by
            rcases Nat.eq_zero_or_pos sCap with h0 | h0
            · left; rw [show sLen = 0 from by omega, Nat.zero_mul]
            · right; exact slc_at g3 g4 g5 (by omega)
          rw [hLes] at g6
          by_cases hc : sLen + n ≤ sCap
          · -- in its place
            have hcz : sCap ≠ 0 := by omega
            have haa := slc_at g3 g4 g5 hcz
            subst haa
            have hle : (sLen + n) * ei.size ≤ L.top := by rw [← g6]; exact Nat.mul_le_mul_right _ hc
            have hst := run_storeCells (P := P) (c := L.c) (o := sLen * ei.size) news 0 W arr q1 (by rw [q2, hln]; rw [Nat.add_mul] at hle; omega) (fun j hj hj' hh => by
              rcases q6.1 j hh.1 hh.2 with k | k
              · omega
              · rw [hln] at hj'; rw [Nat.add_mul] at hle; omega) (hn.ones h4)
            rw [ha.room hc _ (fun a' ea => by cases ea; rw [add_at, Nat.zero_add]; exact hst) fun h => by cases h]
            have hx := Mp.ext_add (L := L) r.fresh
            have hoat := cells_set (S := S) (φ := φ.add h.next L) (ty := ty) (n := (sLen + n) * ei.size) (t := t) (e := be) (fz := fz) (sf := sf) q2 hle q4 (fun i v hv => by
              obtain ⟨k1, w, k2, k3⟩ := q5 i v hv
              exact ⟨by omega, w, k2, k3.mono hx⟩) q6 (hn.mono hx) (o := sLen * ei.size) (by omega)
            refine ⟨φ.add h.next L, _, _, rfl, ?_, r.move hb (by simp) hL (by simp) (fun c hcc => putW_other hcc) rfl (putW_at q1) hoat, Fr.move r hb (by simp) hL rfl (by simp) (fun c hcc => putW_other hcc) rfl rfl rfl⟩
            exact VR.newOpen (L := L) Mp.add_self hc g2 (by rw [hLes]; exact g6)
          · -- in a new row
            have hc : sCap < sLen + n := by omega
            have hle : sLen * ei.size ≤ arr.size := by rw [q2, ← g6]; exact Nat.mul_le_mul_right _ g1
            let olds := arr.toList.take (sLen * ei.size)
            have hol : olds.length = sLen * ei.size := by simp [olds]; omega
            have hoc : ∀ j w, olds[j]? = some w → W.cell? ⟨L.c, 0 + j, none⟩ = some w := by
              intro j w hj
              simp only [olds, List.getElem?_take] at hj
              split at hj
              · rw [Nat.zero_add]
                simp only [World.cell?, q1]
                rw [← Array.getElem?_toList]
                exact hj
              · cases hj
            obtain ⟨cap2, q, k4, k5, k6⟩ := ha.grow olds (olds_run hao hol hoc) hc h3
            rw [k6]
            have rk := r.kill b (r.key _ _ hb)
            let arr2 : Array Value := (olds ++ news).toArray ++ Builtin.zeroCells z'.cells (cap2 - (sLen + n))
            have hsz2 : arr2.size = cap2 * ei.size := by
              simp only [arr2, Array.size_append, zsize, he.zlen, List.size_toArray, List.length_append, hol, hln]
              rw [← Nat.add_mul, ← Nat.add_mul]; congr 1; omega
            let M : Loc := ⟨W.heap.size, arr2.size, ei.size⟩
            have hx := Mp.ext_add (L := M) (show φ (H.next ⟨h.next, h.t.set b .dead⟩) = none from rk.fresh)
            have hget : ∀ i, i < sLen * ei.size + new.length → arr2[i]? = (olds ++ news)[i]? := by
              intro i hi
              simp only [arr2]
              rw [Array.getElem?_append_left (by simp [hol]; omega)]
              simp
            have hoat : OAt S ty (φ.add h.next M) (.cells ((sLen + n) * ei.size) (T.setL new t (sLen * ei.size)) be fz sf) M (.cells arr2 be) := by
              refine ⟨arr2, 0, 0, rfl, rfl, ?_, fun ti hti => by rw [hte] at hti; cases hti; rfl, fun i v hv => ?_, fun j _ hj => by omega, Nat.le_refl _⟩
              · show (sLen + n) * ei.size ≤ arr2.size
                rw [hsz2]; exact Nat.mul_le_mul_right _ k4
              · rw [T.setL_get] at hv
                by_cases hi : sLen * ei.size ≤ i ∧ i < sLen * ei.size + new.length
                · rw [if_pos hi] at hv
                  obtain ⟨w, m1, m2⟩ := (hn.mono hx).get hv
                  refine ⟨by omega, w, ?_, m2⟩
                  rw [hget i hi.2, List.getElem?_append_right (by omega), hol]; exact m1
                · rw [if_neg hi] at hv
                  obtain ⟨m1, w, m2, m3⟩ := q5 i v hv
                  have hlt : i < sLen * ei.size := by omega
                  refine ⟨by omega, w, ?_, m3.mono hx⟩
                  rw [hget i (by omega), List.getElem?_append_left (by omega)]
                  simp only [olds, List.getElem?_take]
                  rw [if_pos hlt, Array.getElem?_toList]; exact m2
            refine ⟨φ.add h.next M, _, _, rfl, VR.newOpen (L := M) Mp.add_self k4 k5 hsz2.symm, rk.new (L := M) rfl hoat, (Fr.kill b).trans (Fr.new rk (L := M) rfl rfl rfl rfl rfl)⟩
end
end Eng

/- Appending in full; a string walked through. -/
namespace Eng
open Go

section
variable {P : Program} {S : Sym} {ty : Nat → Option TI} {φ : Mp} {h : H} {W : World} {f : FT} {l : List V}
variable {v : V} {x y z : Ev} {wx wy wz : Value}

theorem srcCells_any {β : Type} (r : RD S ty φ h W.heap) {es n : Nat} {a : V} {k : List V → Option β} {res : β} (hr : srcCells h es n a k = some res) (hv : VR S φ a wx) (hm : lenV a = some n) :
    ∃ cs ws, k cs = some res ∧ VRL S φ cs ws ∧ (∀ q, (Builtin.firstCells es n wx).run P { W with drawn := q } = .ok ws.toArray { W with drawn := q }) ∧ ws.length = n * es := by
  unfold srcCells at hr
  split at hr
  · cases hm
    have := hv.nils; subst this
    exact ⟨[], [], hr, VRL.nil, fun _ => rfl, by simp⟩
  · rename_i b off len cap ex
    cases hm
    obtain ⟨n', tr, e, fz, sf, hb, hr⟩ := onCells_eq.1 hr
    obtain ⟨cs, h1, hr⟩ := ob_eq.1 hr
    obtain ⟨L, a, cap', hL, rfl, g1, g2, g3, g4, g5, g6⟩ := hv.slc
    obtain ⟨ws, h3, h4, h5⟩ := r.cellsAt hb hL h1
    refine ⟨cs, ws, hr, h3, fun q => olds_run ?_ h4 h5 q, h4⟩
    rcases Nat.eq_zero_or_pos cap' with h0 | h0
    · left; rw [show n = 0 from by omega, Nat.zero_mul]
    · right; exact slc_at g3 g4 g5 (by omega)
  · rename_i len val
    cases hm
    obtain ⟨h1, hr⟩ := gd_eq.1 hr
    obtain ⟨cs, h2, hr⟩ := ob_eq.1 hr
    rw [natBeq_eq] at h1
    obtain ⟨s, rfl, h3⟩ := hv.str
    obtain ⟨h5, h6⟩ := h3.pkl
    rw [← h5, ← h6] at h2
    obtain ⟨h7, h8⟩ := strCells_run (S := S) (φ := φ) h2 (by omega)
    have hsz : s.data.toList.length = n := h5
    refine ⟨cs, _, hr, h7, fun q => ?_, ?_⟩
    · show Result.ok _ _ = _
      congr 1
      apply Array.toList_inj.1
      simp only [List.drop_zero, Array.toList_map, extract_list, hsz]; rfl
    · rw [h1, List.length_map, List.length_take, List.drop_zero]; omega
  · cases hr
theorem slice_form {a : V} (hv : VR S φ a wx) {β : Type} {nn : Option β} {k : Nat → Nat → Nat → Nat → Bool → Option β} {res : β} (hr : onSlc a nn k = some res) : ∃ base sLen sCap, wx = .slice base sLen sCap := by
  rcases onSlc_eq.1 hr with ⟨rfl, _⟩ | ⟨b, off, len, cap, ex, rfl, _⟩
  · exact ⟨_, _, _, hv.nils⟩
  · obtain ⟨L, a, cap', hL, rfl, _⟩ := hv.slc; exact ⟨_, _, _, rfl⟩
theorem fAppend_run {t tx e u : Nat} {ti ui ei : TI} {i i' i'' d d' d'' zz z' z''} (ht : TiOK P t ti i d zz) (hu : TiOK P tx ui i' d' z') (he : TiOK P e ei i'' d'' z'') (hte : ty e = some ei) (hk : ti.d = .slc e)
    (hk' : (∃ e', ui.d = .slc e') ∨ ui.d = .str) {ts : Array Nat} (h0 : ts[0]? = some t) (h1 : ts[1]? = some tx)
    (r : RH S ty φ h W.heap) (hx : EvR S φ f l x wx) (hy : EvR S φ f l y wy) {h' : H} (hr : fAppend e ei.size ei.bytes x y f l h = some (v, h')) :
    EfA S ty φ h W v h' ((Builtin.append_ ts u #[wx, wy]).run P W) := by
  have hd := ht.dr; rw [hk] at hd; simp only [DR] at hd; subst hd
  have hdx : (∃ e', d' = .slice e') ∨ d' = .string := by
    have hd' := hu.dr
    rcases hk' with ⟨e', hk'⟩ | hk'
    · rw [hk'] at hd'; exact .inl ⟨e', hd'⟩
    · rw [hk'] at hd'; exact .inr hd'
  obtain ⟨vs, g1, hr⟩ := ob_eq.1 hr
  obtain ⟨vx, g2, hr⟩ := ob_eq.1 hr
  obtain ⟨n, g3, hr⟩ := ob_eq.1 hr
  have hvs := hx _ g1
  have hvx := hy _ g2
  have hlen := lenV_run (P := P) (W := W) hvx g3
  obtain ⟨new, news, hr2, g4, g5, g6⟩ := srcCells_any (P := P) r.rd hr hvx g3
  obtain ⟨base, sLen, sCap, rfl⟩ := slice_form hvs hr2
  refine doAppend_run he hte r g4 g6 hvs hr2 ⟨fun hroom W' hst hno => ?_, fun olds ho hg hf => ?_⟩
  · exact app_room ht he h0 h1 hdx hu.und hlen (g5 W.drawn) hroom hst hno
  · exact app_grow ht he h0 h1 hdx hu.und hlen g5 ho hg hf
theorem fAppendZ_run {t tx e u : Nat} {ti ui ei : TI} {i i' i'' d d' d'' zz z' z''} (ht : TiOK P t ti i d zz) (hu : TiOK P tx ui i' d' z') (he : TiOK P e ei i'' d'' z'') (hte : ty e = some ei) (hk : ti.d = .slc e)
    {kk : IntKind} (hk' : ui.d = .int kk) {ts : Array Nat} (h0 : ts[0]? = some t) (h1 : ts[1]? = some tx)
    (r : RH S ty φ h W.heap) (hx : EvR S φ f l x wx) (hy : EvR S φ f l y wy) {h' : H} (hr : fAppendZ e ei.size ei.bytes ei.zero.cells x y f l h = some (v, h')) :
    EfA S ty φ h W v h' ((Builtin.append_ ts u #[wx, wy]).run P W) := by
  have hd := ht.dr; rw [hk] at hd; simp only [DR] at hd; subst hd
  have hd' := hu.dr; rw [hk'] at hd'; simp only [DR] at hd'; subst hd'
  obtain ⟨vs, g1, hr⟩ := ob_eq.1 hr
  obtain ⟨kd, n, g2, hr⟩ := oNat hr
  obtain ⟨g3, hr⟩ := gd_eq.1 hr
  rw [natBle_eq] at g3
  have g3 : n * (ei.bytes + 1) ≤ 281474976710656 := g3
  have hvs := hx _ g1
  have := (hy _ g2).int; subst this
  obtain ⟨base, sLen, sCap, rfl⟩ := slice_form hvs hr
  have g4 := ((he.vr S φ).cells he.any).rep n
  have g6 : (repL z''.cells.toList n).length = n * ei.size := by rw [repL_length]; simp [he.zlen]
  refine doAppend_run he hte r g4 g6 hvs hr ⟨fun hroom W' hst hno => ?_, fun olds ho hg hf => ?_⟩
  · exact app_room0 ht he h0 h1 hu.und g3 hroom hst hno
  · exact app_grow0 ht he h0 h1 hu.und ho hg hf

theorem OAt.siter {len val pos : Nat} {L : Loc} {s : ByteArray} (hs : SR len val s) : OAt S ty φ (.siter len val pos) L (.stringIter s pos) := ⟨s, rfl, hs⟩
theorem fNextS_run {t : Nat} (r : RH S ty φ h W.heap) (hx : EvR S φ f l x wx) {h' : H} (hr : fNextS x f l h = some (v, h')) : EfA S ty φ h W v h' ((Instr.next wx true t).run P W) := by
  obtain ⟨b, o, h1, hr⟩ := oPtr hr
  obtain ⟨h2, hr⟩ := gd_eq.1 hr
  obtain ⟨ob', hb, hr⟩ := ob_eq.1 hr
  rw [natBeq_eq] at h2
  obtain ⟨L, hL, hw⟩ := (hx _ h1).ptr
  rw [h2] at hw
  rw [hw]
  unfold nextS at hr
  split at hr
  · rename_i len val pos
    obtain ⟨L', o', hL', h4, h5⟩ := r.live b _ hb (by simp)
    rw [hL] at hL'; cases hL'
    obtain ⟨s, rfl, h6⟩ := h5
    have hg : (getObj L.c).run P W = .ok (.stringIter s pos) W := by simp [getObj, Sem.run, h4]
    have hsz : s.size = len := h6.1
    cases hlt : Nat.blt pos len with
    | false =>
      rw [hlt] at hr; cases hr
      rw [natBlt_ne] at hlt
      have hrun : (Instr.next (.pointer (some ⟨L.c, 0, none⟩)) true t).run P W = .ok (.tuple #[.bool false]) W := by
        have : ¬ (pos < s.size) := by omega
        simp [Instr.next, hg, this]
      rw [hrun]
      exact EfA.same r (VR.mkTup (VRL.one VR.mkBool))
    | true =>
      rw [hlt] at hr
      rw [natBlt_eq] at hlt
      dsimp only at hr
      rw [fN_eq] at hr
      obtain ⟨h7, hr⟩ := gd_eq.1 hr
      rw [fN_eq, putO_eq] at hr
      cases hr
      rw [natBlt_eq] at h7
      obtain ⟨k1, k2⟩ := h6.pkl
      have hp : pos < s.data.toList.length := by omega
      have hbyte : sByte len val pos = (s.data.toList[pos]).toNat := by rw [← k1, ← k2]; exact sByte_eq hp
      have hget : s.get! pos = s.data.toList[pos] := by
        have hp' : pos < s.data.size := by simpa using hp
        show s.data[pos]! = _
        rw [getElem!_pos s.data pos hp']; simp
      have hdec : Utf8.decode s pos = (sByte len val pos, 1) := by
        unfold Utf8.decode
        simp only [Nat.add_zero, hget, ← hbyte]
        rw [if_pos h7]
      have hset : ∀ o2, (setObj L.c o2).run P W = .ok () (putW W L.c o2) := by
        intro o2; simp only [setObj, Sem.run, h4]; rfl
      have hrun : (Instr.next (.pointer (some ⟨L.c, 0, none⟩)) true t).run P W = .ok (.tuple #[.bool true, .int .i64 pos, .int .i32 (sByte len val pos)]) (putW W L.c (.stringIter s (pos + 1))) := by
        have : pos < s.size := by omega
        simp [Instr.next, hg, this, hdec, hset, goInt]
      rw [hrun]
      exact EfA.put r hb (by simp) hL (OAt.siter h6) (VR.mkTup (VRL.cons VR.mkBool (VRL.cons VR.mkInt (VRL.one VR.mkInt))))
  · cases hr
end
end Eng

/- Calls; a map's next entry. -/
namespace Eng
open Go

/-- One of these outcomes it is. -/
def Ans (S : Sym) (ty : Nat → Option TI) (φ : Mp) (h : H) (W : World) (outs : List (V × H)) (w : Value) (W' : World) : Prop :=
  ∃ v h' φ', (v, h') ∈ outs ∧ VR S φ' v w ∧ RH S ty φ' h' W'.heap ∧ Fr φ h W φ' h' W'
/-- Called, the function answers so. -/
def Does (P : Program) (g : Nat) (args : Array Value) (W : World) (R : Value → World → Prop) : Prop :=
  ∀ (o : Oper) (a : Act) (next : Act → World → Prop) (Q : Exit → Act → World → Prop), (∀ w W', R w W' → next (a.put o.dst w) W') → o.upon P a next Q ((callFunc g args).run P W)
/-- The package variables' blocks are known by their own numbers. -/
def GOK (ng : Nat) (φ : Mp) : Prop := ∀ g, g < ng → ∃ L, φ g = some L ∧ L.c = g
theorem GOK.mono {ng : Nat} {φ φ' : Mp} (h : Gro φ φ') (g : GOK ng φ) : GOK ng φ' := fun x hx => let ⟨L, e, e'⟩ := g x hx; ⟨L, h _ _ e, e'⟩
def KOK (P : Program) (S : Sym) (ty : Nat → Option TI) (ng : Nat) (K : Eng.K) : Prop :=
  ∀ g args h outs, K g args h = some outs → ∀ φ W (args' : Array Value), GOK ng φ → VRL S φ args args'.toList → RH S ty φ h W.heap → Does P g args' W (Ans S ty φ h W outs)
def MsOK (P : Program) (ms : String → List (Nat × Nat)) : Prop :=
  ∀ name t g, findM (ms name) t = some g → ∀ v W, (method (P.types.size + Made.depth) t v name).run P W = .ok (g, v) W

section
variable {P : Program} {S : Sym} {ty : Nat → Option TI} {φ : Mp} {h : H} {W : World} {f : FT} {l : List V}
variable {x y z : Ev} {wx wy wz : Value}

/-- An operation with many outcomes. -/
def MuA (P : Program) (S : Sym) (ty : Nat → Option TI) (φ : Mp) (h : H) (W : World) (outs : List (V × H)) (o : Oper) (a : Act) : Prop :=
  ∀ (next : Act → World → Prop) (Q : Exit → Act → World → Prop), (∀ w W', Ans S ty φ h W outs w W' → next (a.put o.dst w) W') → o.wp P a W next Q

theorem mCall_run {K : Eng.K} {ng : Nat} (hK : KOK P S ty ng K) (hG : GOK ng φ) {o : Oper} {a : Act} {c : Call} (ho : o.op = .call c) {g : Nat} (hc : c.callee = .value (.func g)) {xs : Evs} (hx : EvsR S φ f l xs (c.args.toList.map a.eval)) (r : RH S ty φ h W.heap)
    {outs : List (V × H)} (hr : mCall g xs K f l h = some outs) : MuA P S ty φ h W outs o a := by
  intro next Q hn
  obtain ⟨vs, h1, hr⟩ := ob_eq.1 hr
  have hd := hK g vs h outs hr φ W (c.args.map a.eval) hG (by simpa using hx _ h1) r o a next Q hn
  have e : (execOp a.eval o).run P W = (callFunc g (c.args.map a.eval)).run P W := by
    obtain ⟨dst, op, ty', pos, af, gd⟩ := o
    cases ho
    obtain ⟨cal, ca, ct⟩ := c
    cases hc
    simp [execOp, resolve, Act.eval, Deferred.ofValue, invoke]
  unfold Oper.wp
  rw [e]; exact hd
theorem mCallV_run {K : Eng.K} {ng : Nat} (hK : KOK P S ty ng K) (hG : GOK ng φ) {o : Oper} {a : Act} {c : Call} (ho : o.op = .call c) {xo : Operand} (hc : c.callee = .value xo) {xs : Evs} (hg : EvR S φ f l x (a.eval xo)) (hx : EvsR S φ f l xs (c.args.toList.map a.eval)) (r : RH S ty φ h W.heap)
    {outs : List (V × H)} (hr : mCallV x xs K f l h = some outs) : MuA P S ty φ h W outs o a := by
  intro next Q hn
  obtain ⟨g, va, vb, h1, hr⟩ := oFn hr
  obtain ⟨vs, h2, hr⟩ := ob_eq.1 hr
  obtain ⟨a', b', h3, h4, h5⟩ := (hg _ h1).fn
  have hargs : VRL S φ (va ++ (vs ++ vb)) (a' ++ (c.args.map a.eval) ++ b').toList := by
    have := h4.append ((hx _ h2).append h5)
    simpa [List.append_assoc] using this
  have hd := hK g _ h outs hr φ W _ hG hargs r o a next Q hn
  have e : (execOp a.eval o).run P W = (callFunc g (a' ++ (c.args.map a.eval) ++ b')).run P W := by
    obtain ⟨dst, op, ty', pos, af, gd⟩ := o
    cases ho
    obtain ⟨cal, ca, ct⟩ := c
    cases hc
    simp [execOp, resolve, h3, Deferred.ofValue, invoke]
  unfold Oper.wp
  rw [e]; exact hd
theorem mInvoke_run {K : Eng.K} {ng : Nat} (hK : KOK P S ty ng K) (hG : GOK ng φ) {ms : String → List (Nat × Nat)} (hM : MsOK P ms) {o : Oper} {a : Act} {c : Call} (ho : o.op = .call c) {xo : Operand} {name : String} (hc : c.callee = .invoke xo name) {xs : Evs} (hg : EvR S φ f l x (a.eval xo)) (hx : EvsR S φ f l xs (c.args.toList.map a.eval)) (r : RH S ty φ h W.heap)
    {outs : List (V × H)} (hr : mInvoke (ms name) x xs K f l h = some outs) : MuA P S ty φ h W outs o a := by
  intro next Q hn
  rcases oIfc hr with ⟨_, hr⟩ | ⟨t, v, h1, hr⟩
  · cases hr
  obtain ⟨g, h2, hr⟩ := ob_eq.1 hr
  obtain ⟨vs, h3, hr⟩ := ob_eq.1 hr
  obtain ⟨u, h4, h5⟩ := (hg _ h1).ifc
  have hargs : VRL S φ (v :: vs) (#[u] ++ (c.args.map a.eval)).toList := by
    have := VRL.cons h5 (hx _ h3)
    simpa using this
  have hd := hK g _ h outs hr φ W _ hG hargs r o a next Q hn
  have e : (execOp a.eval o).run P W = (callFunc g (#[u] ++ (c.args.map a.eval))).run P W := by
    obtain ⟨dst, op, ty', pos, af, gd⟩ := o
    cases ho
    obtain ⟨cal, ca, ct⟩ := c
    cases hc
    have hm := hM name t g h2 u W
    have e1 : (#[Value.iface t u] ++ ca.map a.eval : Array Value)[0]? = some (.iface t u) := by rw [Array.getElem?_append_left (show 0 < 1 from Nat.one_pos)]; rfl
    have e2 : (#[Value.iface t u] ++ ca.map a.eval : Array Value).extract 1 (#[Value.iface t u] ++ ca.map a.eval : Array Value).size = ca.map a.eval := by
      apply Array.toList_inj.1
      simp only [Array.toList_extract, List.extract_eq_take_drop, Array.toList_append, Array.toList_map, Array.size_append, Array.size_map, List.singleton_append, List.drop_succ_cons, List.drop_zero]
      rw [List.take_of_length_le (by simp)]
    show ((resolve a.eval { callee := .invoke xo name, args := ca, argTypes := ct } ty' >>= fun d => invoke d.target d.args)).run P W = _
    rw [Sem.run_bind]
    show (invoke (.fn (.method name) #[]) (#[a.eval xo] ++ ca.map a.eval)).run P W = _
    rw [h4]
    unfold invoke
    simp only [e1, e2, callMethod, Sem.run_bind, run_program, Result.andThen_ok, hm]
  unfold Oper.wp
  rw [e]; exact hd

theorem run_choose_map (n : Nat) (hn : 0 < n) : ∃ k q, k < n ∧ (choose (.mapNext n)).run P W = .ok k { W with drawn := q } := by
  rw [run_choose]
  by_cases h1 : n ≤ 1
  · refine ⟨0, W.drawn, hn, ?_⟩
    rw [if_pos (by simp [Question.forced, h1])]
  · refine ⟨_, W.drawn + 1, ?_, by rw [if_neg (by simp [Question.forced, h1])]⟩
    simp only [Question.cut]
    exact Nat.mod_lt _ hn
theorem memN_eq (n : Nat) (l : List Nat) : memN n l = l.contains n := by
  induction l with
  | nil => rfl
  | cons m l ih =>
    show (Bool.casesOn (Nat.beq n m) (memN n l) true : Bool) = _
    cases hq : Nat.beq n m with
    | true => rw [natBeq_eq] at hq; subst hq; simp
    | false => rw [natBeq_ne] at hq; simp [ih, hq]
/-- The entries that are not seen yet. -/
theorem fresh_run {since : Nat} {seen : List Nat} : ∀ {es r : List (V × V × Nat)} {m : List MapEntry}, EsR S φ es m → fresh since seen es = some r → EsR S φ r (m.filter fun e => !seen.contains e.born) ∧ (∀ e ∈ m, e.born < since)
  | [], r, m, h, hr => by unfold EsR at h; subst h; cases hr; exact ⟨EsR.nil, fun e he => by cases he⟩
  | (k, v, n) :: es, r, m, h, hr => by
    obtain ⟨e, m', rfl, h1, h2, h3, h4⟩ := h
    obtain ⟨h5, hr⟩ := gd_eq.1 hr
    obtain ⟨r', h6, hr⟩ := ob_eq.1 hr
    rw [natBlt_eq] at h5
    obtain ⟨h7, h8⟩ := fresh_run h4 h6
    refine ⟨?_, fun e' he' => ?_⟩
    · rw [memN_eq] at hr
      cases hc : seen.contains n with
      | true =>
        rw [hc] at hr; cases hr
        rw [List.filter_cons_of_neg (by rw [h3, hc]; simp)]; exact h7
      | false =>
        rw [hc] at hr; cases hr
        rw [List.filter_cons_of_pos (by rw [h3, hc]; rfl)]
        exact EsR.cons h1 h2 h3 h7
    · rcases List.mem_cons.1 he' with rfl | he'
      · omega
      · exact h8 e' he'
end
end Eng

/- A map's next entry. -/
namespace Eng
open Go

section
variable {P : Program} {S : Sym} {ty : Nat → Option TI} {φ : Mp} {h : H} {W : World} {f : FT} {l : List V}
variable {x y z : Ev} {wx wy wz : Value}

theorem wp_value {o : Oper} {a : Act} {w : Value} {W' : World} (e : (execOp a.eval o).run P W = .ok (.value w) W') {next : Act → World → Prop} {Q : Exit → Act → World → Prop} (hn : next (a.put o.dst w) W') : o.wp P a W next Q := by
  unfold Oper.wp
  rw [e]; exact hn
theorem nextL_mem {m since clock b : Nat} {seen : List Nat} : ∀ {l : List (V × V × Nat)} {outs : List (V × H)} {j : Nat} {k v : V} {n : Nat}, nextL m since seen clock b h l = some outs → l[j]? = some (k, v, n) →
    (V.tup [.bool true, k, v], (⟨h.next, h.t.set b (.miter (some m) since (n :: seen) clock)⟩ : H)) ∈ outs
  | [], outs, j, k, v, n, hr, hj => by cases hj
  | (k0, v0, n0) :: l, outs, j, k, v, n, hr, hj => by
    have hr : (putO h b (.miter (some m) since (n0 :: seen) clock) fun h' => ob (nextL m since seen clock b h l) fun r => some ((V.tup [.bool true, k0, v0], h') :: r)) = some outs := hr
    rw [putO_eq] at hr
    obtain ⟨r, h1, hr⟩ := ob_eq.1 hr
    cases hr
    cases j with
    | zero => simp at hj; obtain ⟨rfl, rfl, rfl⟩ := hj; exact List.mem_cons_self
    | succ j => exact List.mem_cons_of_mem _ (nextL_mem h1 (by simpa using hj))
theorem EsR.get : ∀ {es : List (V × V × Nat)} {m : List MapEntry} {j : Nat} {e : MapEntry}, EsR S φ es m → m[j]? = some e → ∃ k v, es[j]? = some (k, v, e.born) ∧ VR S φ k e.key ∧ VR S φ v e.val
  | [], m, j, e, h, hj => by unfold EsR at h; subst h; cases hj
  | (k, v, n) :: es, m, 0, e, h, hj => by
    obtain ⟨e', m', rfl, h1, h2, h3, h4⟩ := h
    simp at hj; subst hj
    exact ⟨k, v, by simp [h3], h1, h2⟩
  | (k, v, n) :: es, m, j + 1, e, h, hj => by
    obtain ⟨e', m', rfl, h1, h2, h3, h4⟩ := h
    simpa using EsR.get h4 (by simpa using hj)
theorem mNextM_run {K : Eng.K} {o : Oper} {a : Act} {it : Operand} (ho : o.op = .next it false) (hx : EvR S φ f l x (a.eval it)) (r : RH S ty φ h W.heap) {outs : List (V × H)} (hr : mNextM x K f l h = some outs) :
    MuA P S ty φ h W outs o a := by
  intro next Q hn
  have eex : ∀ {w W'}, (Instr.next (a.eval it) false o.type).run P W = .ok w W' → (execOp a.eval o).run P W = .ok (.value w) W' := by
    intro w W' e
    obtain ⟨dst, op, ty', pos, af, gd⟩ := o
    cases ho
    show ((do pure (Next.value (← Instr.next (a.eval it) false ty')) : Sem Next)).run P W = _
    rw [Sem.run_bind, e]; rfl
  obtain ⟨b, off, h1, hr⟩ := oPtr hr
  obtain ⟨h2, hr⟩ := gd_eq.1 hr
  obtain ⟨ob', hb, hr⟩ := ob_eq.1 hr
  rw [natBeq_eq] at h2
  obtain ⟨L, hL, hw⟩ := (hx _ h1).ptr
  rw [h2] at hw
  rw [hw] at eex
  unfold nextM at hr
  split at hr
  · rename_i since seen stepped
    cases hr
    obtain ⟨L', o', hL', h4, h5⟩ := r.live b _ hb (by simp)
    rw [hL] at hL'; cases hL'
    obtain ⟨seen', rfl⟩ := h5
    have hg : (getObj L.c).run P W = .ok (.mapIter none since seen' stepped) W := by simp [getObj, Sem.run, h4]
    have hrun : (Instr.next (.pointer (some ⟨L.c, 0, none⟩)) false o.type).run P W = .ok (.tuple #[.bool false]) W := by
      simp [Instr.next, hg]
    exact wp_value (eex hrun) (hn _ _ ⟨_, _, φ, List.mem_singleton.2 rfl, VR.mkTup (VRL.one VR.mkBool), r, Fr.refl φ h W⟩)
  · rename_i m since seen last
    obtain ⟨es, clock, hm, hr⟩ := onMapO_eq.1 hr
    obtain ⟨h3, hr⟩ := gd_eq.1 hr
    obtain ⟨h3', hr⟩ := gd_eq.1 hr
    obtain ⟨fr, h6, hr⟩ := ob_eq.1 hr
    rw [natBeq_eq] at h3
    rw [natBle_eq] at h3'
    obtain ⟨L', o', hL', h4, h5⟩ := r.live b _ hb (by simp)
    rw [hL] at hL'; cases hL'
    obtain ⟨Lm, hLm, rfl⟩ := h5
    obtain ⟨L'', es', hL'', h7, h8⟩ := r.rd.mapo hm
    rw [hLm] at hL''; cases hL''
    obtain ⟨h9, h10⟩ := fresh_run h8 h6
    have hg : (getObj L.c).run P W = .ok (.mapIter (some Lm.c) since seen.reverse.toArray last) W := by simp [getObj, Sem.run, h4]
    have hgm := run_getObj_map (P := P) h7
    have hcond : (!(seen.reverse.toArray).isEmpty && !es'.isEmpty && es'.all (fun e => decide (e.born ≥ last))) = false := by
      cases he : es'.toList with
      | nil =>
        have : es' = #[] := Array.toList_inj.1 he
        subst this; simp
      | cons e0 t =>
        have hlt := h10 e0 (by rw [he]; exact List.mem_cons_self)
        have : es'.all (fun e => decide (e.born ≥ last)) = false := by
          rw [← Array.all_toList, he]
          have : decide (e0.born ≥ last) = false := by simp; omega
          rw [List.all_cons, this, Bool.false_and]
        rw [this, Bool.and_false]
    have hleft : (es'.filter fun e => !(seen.reverse.toArray).contains e.born).toList = es'.toList.filter fun e => !seen.contains e.born := by
      rw [Array.toList_filter]
      congr 1
      funext e
      congr 1
      rw [Bool.eq_iff_iff]; simp
    have hold : ((es'.filter fun e => !(seen.reverse.toArray).contains e.born).filter fun e => decide (e.born < since)) = (es'.filter fun e => !(seen.reverse.toArray).contains e.born) := by
      apply Array.toList_inj.1
      rw [Array.toList_filter, List.filter_eq_self]
      intro e he
      rw [hleft] at he
      have := h10 e ((List.mem_filter.1 he).1)
      simpa using this
    have hnew : ((es'.filter fun e => !(seen.reverse.toArray).contains e.born).filter fun e => decide (e.born ≥ since)) = #[] := by
      apply Array.toList_inj.1
      rw [Array.toList_filter]
      show _ = []
      rw [List.filter_eq_nil_iff]
      intro e he
      rw [hleft] at he
      have := h10 e ((List.mem_filter.1 he).1)
      simp; omega
    generalize hlf : (es'.filter fun e => !(seen.reverse.toArray).contains e.born) = left at hold hnew hleft
    rw [← hleft] at h9
    have hlen := EsR.length h9
    -- the question
    cases fr with
    | nil =>
      cases hr
      have hl0 : left = #[] := by
        apply Array.toList_inj.1; exact List.length_eq_zero_iff.1 hlen
      have hrun : (Instr.next (.pointer (some ⟨L.c, 0, none⟩)) false o.type).run P W = .ok (.tuple #[.bool false]) W := by
        subst hl0
        simp only [Instr.next, Sem.run_bind, hg, hgm, Result.andThen_ok, hcond, Bool.false_eq_true, if_false, hlf, hold, hnew]
        simp [run_choose, Question.forced]
      exact wp_value (eex hrun) (hn _ _ ⟨_, _, φ, List.mem_singleton.2 rfl, VR.mkTup (VRL.one VR.mkBool), r, Fr.refl φ h W⟩)
    | cons p fr =>
      have hne : left.isEmpty = false := by
        rw [Bool.eq_false_iff]; intro he
        rw [Array.isEmpty_iff] at he
        subst he; simp at hlen
      have hpos : 0 < (left.map some : Array (Option MapEntry)).size := by
        rw [Array.size_map]
        have : left.toList.length = (p :: fr).length := hlen
        rw [Array.length_toList] at this; simp at this; omega
      obtain ⟨k, q, hk, hch⟩ := run_choose_map (P := P) (W := W) _ hpos
      have hk' : k < left.size := by simpa using hk
      have hset : ∀ o2, (setObj L.c o2).run P { W with drawn := q } = .ok () (putW { W with drawn := q } L.c o2) := by
        intro o2; simp only [setObj, Sem.run, h4]; rfl
      have hrun : (Instr.next (.pointer (some ⟨L.c, 0, none⟩)) false o.type).run P W = .ok (.tuple #[.bool true, left[k].key, left[k].val]) (putW { W with drawn := q } L.c (.mapIter (some Lm.c) since (seen.reverse.toArray.push left[k].born) clock)) := by
        simp only [Instr.next, Sem.run_bind, hg, hgm, Result.andThen_ok, hcond, Bool.false_eq_true, if_false, hlf, hold, hnew, hne]
        have hcand : (#[] ++ (left ++ #[]).map some : Array (Option MapEntry)) = left.map some := by simp
        rw [hcand, hch]
        simp only [Result.andThen_ok]
        have : (left.map some)[k]? = some (some left[k]) := by simp [hk']
        rw [this]
        simp only [Sem.run_bind, hset, Result.andThen_ok, Sem.run_pure]
      obtain ⟨kk, vv, k1, k2, k3⟩ := EsR.get h9 (j := k) (e := left[k]) (by rw [Array.getElem?_toList]; simp [hk'])
      have hmem := nextL_mem (h := h) hr k1
      refine wp_value (eex hrun) (hn _ _ ⟨_, _, φ, hmem, VR.mkTup (VRL.cons VR.mkBool (VRL.cons k2 (VRL.one k3))), ?_, ?_⟩)
      · refine r.put hb (by simp) hL (by simp) (fun c hc => putW_other (W := { W with drawn := q }) hc) (putW_at (W := { W with drawn := q }) h4) ?_
        have : seen.reverse.toArray.push left[k].born = (left[k].born :: seen).reverse.toArray := by simp
        rw [this]
        exact OAt.miter hLm
      · exact Fr.put hb (by simp) hL (by simp) (fun c hc => putW_other (W := { W with drawn := q }) hc) rfl rfl rfl
  · cases hr
end
end Eng

/- Readings, op by op. -/
namespace Eng
open Go

section
variable {P : Program} {S : Sym} {φ φ0 : Mp} {h : H} {W W0 : World} {f : FT} {l : List V} {c : Cx} {env : Env} {n : Nat} {a : Act} {v : V} {b : Bool} {r : Rd}

/-- What a reading says of an operation's answer. -/
def RdA (P : Program) (S : Sym) (φ : Mp) (W : World) (v : V) (s : Sem Value) : Prop := ∃ w, s.run P W = .ok w W ∧ VR S φ v w
/-- Where a reading was made: the heap now, or (for what does not look into the heap) one before. -/
structure RdE (P : Program) (S : Sym) (c : Cx) (φ : Mp) (W : World) (h : H) (b : Bool) (φ0 : Mp) (W0 : World) : Prop where
  ty : TyOK P c.ty
  sy : SyOK P S c.sy
  rd : RD S c.ty φ0 h W0.heap
  gro : Gro φ0 φ
  now : b = true → φ0 = φ ∧ W0 = W
theorem RdE.cur (e : RdE P S c φ W h true φ0 W0) : RD S c.ty φ h W.heap := by
  obtain ⟨h1, h2⟩ := e.now rfl
  rw [← h1, ← h2]; exact e.rd
theorem opE1 {x : Operand} {xs : List Operand} (hO : OpsR S φ c env n f l a (x :: xs)) {e : Ev} (he : opE c env n x = some e) : EvR S φ f l e (a.eval x) := hO x (by simp) e he
theorem opE2 {x y : Operand} {xs : List Operand} (hO : OpsR S φ c env n f l a (x :: y :: xs)) {e : Ev} (he : opE c env n y = some e) : EvR S φ f l e (a.eval y) := hO y (by simp) e he
theorem opE3 {x y z : Operand} {xs : List Operand} (hO : OpsR S φ c env n f l a (x :: y :: z :: xs)) {e : Ev} (he : opE c env n z = some e) : EvR S φ f l e (a.eval z) := hO z (by simp) e he

theorem cMove_sound {x : Operand} (hO : OpsR S φ c env n f l a [x]) (hco : cMove x c env n = some (.rd b r)) (hr : r f l h = some v) : RdA P S φ W v (pure (a.eval x)) := by
  obtain ⟨e, h1, hco⟩ := ob_eq.1 hco
  cases hco
  exact ⟨_, rfl, opE1 hO h1 _ hr⟩
theorem cPick_sound {p x y : Operand} (hO : OpsR S φ c env n f l a [p, x, y]) (hco : cPick p x y c env n = some (.rd b r)) (hr : r f l h = some v) : RdA P S φ W v (do pure (if ← asBool (a.eval p) then a.eval x else a.eval y)) := by
  obtain ⟨e1, h1, hco⟩ := ob_eq.1 hco
  obtain ⟨e2, h2, hco⟩ := ob_eq.1 hco
  obtain ⟨e3, h3, hco⟩ := ob_eq.1 hco
  cases hco
  exact rPick_run (opE1 hO h1) (opE2 hO h2) (opE3 hO h3) hr
theorem cLoad_sound {t : Nat} {x : Operand} (hE : RdE P S c φ W h b φ0 W0) (hO : OpsR S φ c env n f l a [x]) (hco : cLoad t x c env n = some (.rd b r)) (hr : r f l h = some v) : RdA P S φ W v (Instr.loadAt t (a.eval x)) := by
  obtain ⟨ti, h0, hco⟩ := ob_eq.1 hco
  obtain ⟨e1, h1, hco⟩ := ob_eq.1 hco
  obtain ⟨i, d, z, ht⟩ := hE.ty _ _ h0
  cases hg : ti.agg with
  | true =>
    rw [hg] at hco; cases hco
    exact rLoadN_run hE.sy.ro ht hg hE.cur (opE1 hO h1) hr
  | false =>
    rw [hg] at hco; cases hco
    exact rLoad1_run hE.sy.ro ht hg hE.cur (opE1 hO h1) hr

theorem fieldParts_fill (hT : TyOK P c.ty) {fs : List (Nat × Nat)} : ∀ {ps : List (Nat × Operand)} {p : Fill}, fieldParts c env n fs ps = some p → OpsR S φ c env n f l a (ps.map (·.2)) →
    FillR S φ f l (fun i => (fs[i]?).map fun q => (q.1, P.cellsOf q.2)) p (ps.map fun q => (q.1, a.eval q.2))
  | [], p, hp, _ => by cases hp; exact FillR.nil
  | (i, x) :: ps, p, hp, hO => by
    obtain ⟨q, h1, hp⟩ := ob_eq.1 hp
    obtain ⟨off, t⟩ := q
    obtain ⟨ti, h2, hp⟩ := ob_eq.1 hp
    obtain ⟨e, h3, hp⟩ := ob_eq.1 hp
    obtain ⟨p', h4, hp⟩ := ob_eq.1 hp
    cases hp
    obtain ⟨i', d, z, ht⟩ := hT _ _ h2
    rw [nthO_eq] at h1
    exact FillR.cons (by simp [h1, ht.cells]) (opE1 hO h3) (fieldParts_fill hT h4 (hO.mono fun y hy => List.mem_cons_of_mem _ hy))
theorem rowParts_fill {es : Nat} : ∀ {ps : List (Nat × Operand)} {p : Fill}, rowParts c env n es ps = some p → OpsR S φ c env n f l a (ps.map (·.2)) →
    FillR S φ f l (fun i => some (i * es, es)) p (ps.map fun q => (q.1, a.eval q.2))
  | [], p, hp, _ => by cases hp; exact FillR.nil
  | (i, x) :: ps, p, hp, hO => by
    have hp : (fN (Nat.mul i es) fun off => ob (opE c env n x) fun x => ob (rowParts c env n es ps) fun l => some (fPart off es x l)) = some p := hp
    rw [fN_eq] at hp
    obtain ⟨e, h3, hp⟩ := ob_eq.1 hp
    obtain ⟨p', h4, hp⟩ := ob_eq.1 hp
    cases hp
    exact FillR.cons rfl (opE1 hO h3) (rowParts_fill h4 (hO.mono fun y hy => List.mem_cons_of_mem _ hy))
theorem cBuild_sound {t : Nat} {ps : Array (Nat × Operand)} (hE : RdE P S c φ W h b φ0 W0) (hO : OpsR S φ c env n f l a (ps.toList.map (·.2))) (hco : cBuild t ps c env n = some (.rd b r)) (hr : r f l h = some v) :
    RdA P S φ W v (Instr.build t (ps.map fun q => (q.1, a.eval q.2))) := by
  obtain ⟨ti, h0, hco⟩ := ob_eq.1 hco
  rw [fL_eq] at hco
  obtain ⟨i, d, z, ht⟩ := hE.ty _ _ h0
  split at hco
  · rename_i fs hk
    obtain ⟨p, h1, hco⟩ := ob_eq.1 hco
    cases hco
    exact rBuildS_run ht hk (by rw [Array.toList_map]; exact fieldParts_fill hE.ty h1 hO) hr
  · rename_i m e hk
    obtain ⟨ei, h2, hco⟩ := ob_eq.1 hco
    obtain ⟨p, h1, hco⟩ := ob_eq.1 hco
    cases hco
    obtain ⟨i', d', z', he⟩ := hE.ty _ _ h2
    exact rBuildA_run ht he hk (by rw [Array.toList_map]; exact rowParts_fill h1 hO) hr
  · cases hco
theorem cUnOp_sound {op : UnOp} {x : Operand} (hO : OpsR S φ c env n f l a [x]) (hco : cUnOp op x c env n = some (.rd b r)) (hr : r f l h = some v) : RdA P S φ W v (Op.unary op (a.eval x)) := by
  obtain ⟨e, h1, hco⟩ := ob_eq.1 hco
  cases op <;> cases hco
  · exact rNeg_run (opE1 hO h1) hr
  · exact rBNot_run (opE1 hO h1) hr
  · exact rNot_run (opE1 hO h1) hr
theorem cBinOp_sound {op : BinOp} {t : Nat} {x y : Operand} (hE : RdE P S c φ W h b φ0 W0) (hO : OpsR S φ c env n f l a [x, y]) (hco : cBinOp op t x y c env n = some (.rd b r)) (hr : r f l h = some v) :
    RdA P S φ W v (do eqGuard op t x y (a.eval x) (a.eval y); binOp op t (a.eval x) (a.eval y)) := by
  obtain ⟨ti, h0, hco⟩ := ob_eq.1 hco
  obtain ⟨e1, h1, hco⟩ := ob_eq.1 hco
  obtain ⟨e2, h2, hco⟩ := ob_eq.1 hco
  obtain ⟨i, d, z, ht⟩ := hE.ty _ _ h0
  have hx := opE1 hO h1
  have hy := opE2 hO h2
  split at hco
  · rename_i k hk
    split at hco
    · cases hco; exact shl_run (t := t) (ox := x) (oy := y) hx hy hr
    · cases hco; exact shr_run (t := t) (ox := x) (oy := y) hx hy hr
    · cases hkk : kEq k .i64 with
      | false => rw [hkk] at hco; cases hco; exact rBinI_run (t := t) (ox := x) (oy := y) hx hy hr
      | true => rw [hkk] at hco; cases hco; exact rBinJ_run (t := t) (ox := x) (oy := y) hE.sy hE.rd hE.gro hx hy hr
  · cases hco; exact rBinS_run (t := t) (ox := x) (oy := y) hE.sy hx hy hr
  · obtain ⟨ks, h3, hco⟩ := ob_eq.1 hco
    split at hco
    · cases hco; exact rEqS_run (ox := x) (oy := y) hE.sy h3 false hx hy hr
    · cases hco; exact rEqS_run (ox := x) (oy := y) hE.sy h3 true hx hy hr
    · cases hco
  · cases hco
  · obtain ⟨k, h3, hco⟩ := ob_eq.1 hco
    split at hco
    · cases hco; exact rEqP_run (ox := x) (oy := y) hE.ty hE.cur ht h3 false hx hy hr
    · cases hco; exact rEqP_run (ox := x) (oy := y) hE.ty hE.cur ht h3 true hx hy hr
    · cases hco

theorem cConvert_sound {s d : Nat} {x : Operand} (hE : RdE P S c φ W h b φ0 W0) (hO : OpsR S φ c env n f l a [x]) (hco : cConvert s d x c env n = some (.rd b r)) (hr : r f l h = some v) :
    RdA P S φ W v (convert s d (a.eval x)) := by
  obtain ⟨si, h0, hco⟩ := ob_eq.1 hco
  obtain ⟨di, h1, hco⟩ := ob_eq.1 hco
  obtain ⟨e, h2, hco⟩ := ob_eq.1 hco
  obtain ⟨i, dd, z, hs⟩ := hE.ty _ _ h0
  obtain ⟨i', dd', z', hd⟩ := hE.ty _ _ h1
  have hx := opE1 hO h2
  split at hco
  · rename_i k1 k e1 e2; cases hco; exact rCii_run hs hd e2 hx hr
  · rename_i e1 e2; cases hco; exact rCss_run hs hd e2 hx hr
  · obtain ⟨ei, _, hco⟩ := ob_eq.1 hco
    obtain ⟨_, hco⟩ := gd_eq.1 hco
    cases hco
  · rename_i el e1 e2
    obtain ⟨ei, h3, hco⟩ := ob_eq.1 hco
    obtain ⟨h4, hco⟩ := gd_eq.1 hco
    cases hco
    obtain ⟨i'', d'', z'', he⟩ := hE.ty _ _ h3
    exact rCbs_run hs hd he e1 e2 h4 hE.cur hx hr
  · rename_i k e1 e2; cases hco; exact rCis_run hs hd e2 hx hr
  · rename_i el e1 e2
    obtain ⟨ei, h3, hco⟩ := ob_eq.1 hco
    obtain ⟨h4, hco⟩ := gd_eq.1 hco
    cases hco
    rw [natBlt_eq] at h4
    obtain ⟨i'', d'', z'', he⟩ := hE.ty _ _ h3
    exact rCpu_run hs hd he e1 e2 h4 hE.cur hx hr
  · rename_i el e1 e2
    obtain ⟨ei, h3, hco⟩ := ob_eq.1 hco
    obtain ⟨h4, hco⟩ := gd_eq.1 hco
    cases hco
    rw [natBlt_eq] at h4
    obtain ⟨i'', d'', z'', he⟩ := hE.ty _ _ h3
    exact rCup_run hs hd he e1 e2 h4 hE.cur hx hr
  · cases hco
theorem cMakeInterface_sound {t : Nat} {x : Operand} (hE : RdE P S c φ W h b φ0 W0) (hO : OpsR S φ c env n f l a [x]) (hco : cMakeInterface t x c env n = some (.rd b r)) (hr : r f l h = some v) :
    RdA P S φ W v (Instr.makeInterface t (a.eval x)) := by
  obtain ⟨ti, h0, hco⟩ := ob_eq.1 hco
  obtain ⟨i, d, z, ht⟩ := hE.ty _ _ h0
  split at hco
  · cases hco
  · rename_i hk
    obtain ⟨e, h1, hco⟩ := ob_eq.1 hco
    cases hco
    exact rMkIfc_run ht hk (opE1 hO h1) hr
theorem cMakeFunc_sound {fn : Fn} {xs ys : Array Operand} (hO : OpsR S φ c env n f l a (xs.toList ++ ys.toList)) (hco : cMakeFunc fn xs ys c env n = some (.rd b r)) (hr : r f l h = some v) :
    RdA P S φ W v (Instr.makeFunc fn (xs.map a.eval) (ys.map a.eval)) := by
  obtain ⟨e1, h1, hco⟩ := ob_eq.1 hco
  obtain ⟨e2, h2, hco⟩ := ob_eq.1 hco
  cases hco
  have := rMkFn_run (P := P) (W := W) (OpsR.evs (hO.mono fun x hx => List.mem_append.2 (.inl hx)) h1) (OpsR.evs (hO.mono fun x hx => List.mem_append.2 (.inr hx)) h2) hr
  have e1 : (xs.toList.map a.eval).toArray = xs.map a.eval := by apply Array.toList_inj.1; simp
  have e2 : (ys.toList.map a.eval).toArray = ys.map a.eval := by apply Array.toList_inj.1; simp
  rw [e1, e2] at this
  exact this
theorem cExtract_sound {x : Operand} {i : Nat} (hO : OpsR S φ c env n f l a [x]) (hco : cExtract x i c env n = some (.rd b r)) (hr : r f l h = some v) : RdA P S φ W v (Instr.extract (a.eval x) i) := by
  obtain ⟨e, h1, hco⟩ := ob_eq.1 hco
  cases hco
  exact rExtract_run (opE1 hO h1) hr
theorem cEntry_sound {x : Operand} (hE : RdE P S c φ W h b φ0 W0) (hO : OpsR S φ c env n f l a [x]) (hco : cEntry x c env n = some (.rd b r)) (hr : r f l h = some v) : RdA P S φ W v (Instr.entry (a.eval x)) := by
  obtain ⟨e, h1, hco⟩ := ob_eq.1 hco
  cases hco
  exact rEntry_run hE.cur (opE1 hO h1) hr
theorem cTypeAssert_sound {x : Operand} {t u : Nat} {ok : Bool} (hE : RdE P S c φ W h b φ0 W0) (hO : OpsR S φ c env n f l a [x]) (hco : cTypeAssert x t ok c env n = some (.rd b r)) (hr : r f l h = some v) :
    RdA P S φ W v (Instr.typeAssert (a.eval x) u t ok) := by
  obtain ⟨ti, h0, hco⟩ := ob_eq.1 hco
  obtain ⟨e, h1, hco⟩ := ob_eq.1 hco
  obtain ⟨i, d, z, ht⟩ := hE.ty _ _ h0
  split at hco
  · cases hco
  · rename_i hk
    cases hco
    exact rTassert_run ht hk (opE1 hO h1) hr
theorem cField_sound {t k : Nat} {x : Operand} (hE : RdE P S c φ W h b φ0 W0) (hO : OpsR S φ c env n f l a [x]) (hco : cField t x k c env n = some (.rd b r)) (hr : r f l h = some v) : RdA P S φ W v (Instr.field t (a.eval x) k) := by
  obtain ⟨ti, h0, hco⟩ := ob_eq.1 hco
  obtain ⟨e, h1, hco⟩ := ob_eq.1 hco
  obtain ⟨i, d, z, ht⟩ := hE.ty _ _ h0
  split at hco
  · rename_i fs hk
    obtain ⟨q, h2, hco⟩ := ob_eq.1 hco
    obtain ⟨off, u⟩ := q
    obtain ⟨ui, h3, hco⟩ := ob_eq.1 hco
    obtain ⟨i', d', z', hu⟩ := hE.ty _ _ h3
    rw [nthO_eq] at h2
    cases hg : ui.agg with
    | true => rw [hg] at hco; cases hco; exact rFieldN_run ht hu hk h2 hg (opE1 hO h1) hr
    | false => rw [hg] at hco; cases hco; exact rField1_run ht hu hk h2 hg (opE1 hO h1) hr
  · cases hco
theorem cFieldAddr_sound {t k : Nat} {x : Operand} (hE : RdE P S c φ W h b φ0 W0) (hO : OpsR S φ c env n f l a [x]) (hco : cFieldAddr t x k c env n = some (.rd b r)) (hr : r f l h = some v) : RdA P S φ W v (Instr.fieldAt t (a.eval x) k) := by
  obtain ⟨ti, h0, hco⟩ := ob_eq.1 hco
  obtain ⟨e, h1, hco⟩ := ob_eq.1 hco
  obtain ⟨i, d, z, ht⟩ := hE.ty _ _ h0
  split at hco
  · rename_i fs hk
    obtain ⟨q, h2, hco⟩ := ob_eq.1 hco
    obtain ⟨off, u⟩ := q
    obtain ⟨ui, h3, hco⟩ := ob_eq.1 hco
    obtain ⟨i', d', z', hu⟩ := hE.ty _ _ h3
    obtain ⟨h4, hco⟩ := gd_eq.1 hco
    rw [nthO_eq] at h2
    rw [natBlt_eq] at h4
    cases hco
    exact rFieldAddr_run ht hu hk h2 h4 (opE1 hO h1) hr
  · cases hco
theorem cIndexAddr_sound {t : Nat} {x y : Operand} (hE : RdE P S c φ W h b φ0 W0) (hO : OpsR S φ c env n f l a [x, y]) (hco : cIndexAddr t x y c env n = some (.rd b r)) (hr : r f l h = some v) : RdA P S φ W v (Instr.indexAt t (a.eval x) (a.eval y)) := by
  obtain ⟨ti, h0, hco⟩ := ob_eq.1 hco
  obtain ⟨e1, h1, hco⟩ := ob_eq.1 hco
  obtain ⟨e2, h2, hco⟩ := ob_eq.1 hco
  obtain ⟨i, d, z, ht⟩ := hE.ty _ _ h0
  split at hco
  · rename_i e hk
    obtain ⟨ei, h3, hco⟩ := ob_eq.1 hco
    obtain ⟨i', d', z', he⟩ := hE.ty _ _ h3
    cases hco
    exact rIaddrL_run ht he hk (opE1 hO h1) (opE2 hO h2) hr
  · rename_i m e hk
    obtain ⟨ei, h3, hco⟩ := ob_eq.1 hco
    obtain ⟨i', d', z', he⟩ := hE.ty _ _ h3
    cases hco
    exact rIaddrA_run ht he hk (opE1 hO h1) (opE2 hO h2) hr
  · cases hco
theorem cIndex_sound {t : Nat} {x y : Operand} (hE : RdE P S c φ W h b φ0 W0) (hO : OpsR S φ c env n f l a [x, y]) (hco : cIndex t x y c env n = some (.rd b r)) (hr : r f l h = some v) : RdA P S φ W v (Instr.index t (a.eval x) (a.eval y)) := by
  obtain ⟨ti, h0, hco⟩ := ob_eq.1 hco
  obtain ⟨e1, h1, hco⟩ := ob_eq.1 hco
  obtain ⟨e2, h2, hco⟩ := ob_eq.1 hco
  obtain ⟨i, d, z, ht⟩ := hE.ty _ _ h0
  split at hco
  · rename_i hk
    cases hco
    exact rIdxS_run ht hk (opE1 hO h1) (opE2 hO h2) hr
  · rename_i m e hk
    obtain ⟨ei, h3, hco⟩ := ob_eq.1 hco
    obtain ⟨i', d', z', he⟩ := hE.ty _ _ h3
    cases hg : ei.agg with
    | true => rw [hg] at hco; cases hco; exact rIdxAN_run ht he hk hg (opE1 hO h1) (opE2 hO h2) hr
    | false => rw [hg] at hco; cases hco; exact rIdxA1_run ht he hk hg (opE1 hO h1) (opE2 hO h2) hr
  · cases hco
theorem cLookup_sound {t : Nat} {x y : Operand} {ok : Bool} (hE : RdE P S c φ W h b φ0 W0) (hO : OpsR S φ c env n f l a [x, y]) (hco : cLookup t x y ok c env n = some (.rd b r)) (hr : r f l h = some v) : RdA P S φ W v (Instr.lookup t (a.eval x) (a.eval y) ok) := by
  obtain ⟨ti, h0, hco⟩ := ob_eq.1 hco
  obtain ⟨e1, h1, hco⟩ := ob_eq.1 hco
  obtain ⟨e2, h2, hco⟩ := ob_eq.1 hco
  obtain ⟨i, d, z, ht⟩ := hE.ty _ _ h0
  split at hco
  · rename_i kt e hk
    obtain ⟨ki, h3, hco⟩ := ob_eq.1 hco
    obtain ⟨kk, h4, hco⟩ := ob_eq.1 hco
    obtain ⟨ei, h5, hco⟩ := ob_eq.1 hco
    obtain ⟨i', d', z', hkt⟩ := hE.ty _ _ h3
    obtain ⟨i'', d'', z'', he⟩ := hE.ty _ _ h5
    cases hco
    exact rLookup_run ht hkt he hk h4 hE.cur (opE1 hO h1) (opE2 hO h2) hr
  · cases hco
end
end Eng

/- Readings, op by op: slices, builtins; all of them. -/
namespace Eng
open Go

section
variable {P : Program} {S : Sym} {φ φ0 : Mp} {h : H} {W W0 : World} {f : FT} {l : List V} {c : Cx} {env : Env} {n : Nat} {a : Act} {v : V} {b : Bool} {r : Rd}

theorem bdOf_r {o : Option Operand} {bd : Bd} (hO : OpsR S φ c env n f l a o.toList) (hb : bdOf c env n o = some bd) : BdR S φ f l bd (o.map a.eval) := by
  cases o with
  | none => cases hb; exact .inl ⟨rfl, rfl⟩
  | some x =>
    obtain ⟨e, h1, hb⟩ := ob_eq.1 hb
    cases hb
    exact .inr ⟨e, _, rfl, rfl, hO x (by simp) e h1⟩
theorem cSlice_sound {t : Nat} {x : Operand} {lo hi mx : Option Operand} (hE : RdE P S c φ W h b φ0 W0) (hO : OpsR S φ c env n f l a (x :: (lo.toList ++ hi.toList ++ mx.toList))) (hco : cSlice t x lo hi mx c env n = some (.rd b r)) (hr : r f l h = some v) :
    RdA P S φ W v (Instr.sliceAt t (a.eval x) (lo.map a.eval) (hi.map a.eval) (mx.map a.eval)) := by
  obtain ⟨ti, h0, hco⟩ := ob_eq.1 hco
  obtain ⟨e, h1, hco⟩ := ob_eq.1 hco
  obtain ⟨bl, h2, hco⟩ := ob_eq.1 hco
  obtain ⟨bh, h3, hco⟩ := ob_eq.1 hco
  obtain ⟨i, d, z, ht⟩ := hE.ty _ _ h0
  have hx := opE1 hO h1
  have hl := bdOf_r (hO.mono fun y hy => List.mem_cons_of_mem _ (List.mem_append.2 (.inl (List.mem_append.2 (.inl hy))))) h2
  have hh := bdOf_r (hO.mono fun y hy => List.mem_cons_of_mem _ (List.mem_append.2 (.inl (List.mem_append.2 (.inr hy))))) h3
  split at hco
  · rename_i hk
    cases mx with
    | none => cases hco; exact rSliceS_run ht hk hl hh hx hr
    | some m => cases hco
  · rename_i e' hk
    obtain ⟨ei, h4, hco⟩ := ob_eq.1 hco
    obtain ⟨i', d', z', he⟩ := hE.ty _ _ h4
    cases mx with
    | none => cases hco; exact rSliceL_run ht he h4 hk hl hh hE.cur hx hr
    | some m =>
      obtain ⟨hi0, h5, hco⟩ := ob_eq.1 hco
      obtain ⟨em, h6, hco⟩ := ob_eq.1 hco
      cases hco
      subst h5
      obtain ⟨eh, h7, h3⟩ := ob_eq.1 h3
      cases h3
      exact rSliceL3_run ht he h4 hk hl (hO hi0 (by simp) eh h7) (hO m (by simp) em h6) hE.cur hx hr
  · rename_i k e' hk
    obtain ⟨ei, h4, hco⟩ := ob_eq.1 hco
    obtain ⟨i', d', z', he⟩ := hE.ty _ _ h4
    cases mx with
    | none => cases hco; exact rSliceA_run ht he hk hl hh hx hr
    | some m => cases hco
  · cases hco

theorem arr_eq {α : Type} {xs : Array α} {l : List α} (h : xs.toList = l) : xs = l.toArray := by rw [← h]
theorem cBuiltin_sound {bi : Builtin} {ts : Array Nat} {args : Array Operand} (hE : RdE P S c φ W h b φ0 W0) (hO : OpsR S φ c env n f l a args.toList) (hco : cBuiltin c env n bi ts.toList args.toList = some (.rd b r)) (hr : r f l h = some v) (u : Nat) (cs : Array Bool) :
    ∃ w, (builtin bi ts u cs (args.map a.eval)).run P W = .ok (.value w) W ∧ VR S φ v w := by
  have fin : ∀ {s : Sem Value}, RdA P S φ W v s → ∃ w, ((do pure (.value (← s)) : Sem Next)).run P W = .ok (.value w) W ∧ VR S φ v w := by
    rintro s ⟨w, h1, h2⟩
    exact ⟨w, by rw [Sem.run_bind, h1]; rfl, h2⟩
  unfold cBuiltin at hco
  split at hco
  · rename_i t _ x e1 e2
    have hts : ts[0]? = some t := by rw [← Array.getElem?_toList, e1]; rfl
    have hx0 := arr_eq e2; subst hx0
    rw [show Array.map a.eval [x].toArray = #[a.eval x] from by simp]
    obtain ⟨ti, h0, hco⟩ := ob_eq.1 hco
    obtain ⟨e, h1, hco⟩ := ob_eq.1 hco
    obtain ⟨i, d, z, ht⟩ := hE.ty _ _ h0
    have hx := opE1 hO h1
    split at hco
    · rename_i hk; cases hco; exact fin (rLenS_run hE.sy ht hk hts hx hr)
    · rename_i e' hk; cases hco; exact fin (rLenL_run ht hk hts hx hr)
    · rename_i k e' hk; cases hco; exact fin (rLenM_run ht hk hts hE.cur hx hr)
    · rename_i m e' hk; cases hco; exact fin (rLenA_run ht hk hts hr)
    · cases hco
  · rename_i t _ x e1 e2
    have hts : ts[0]? = some t := by rw [← Array.getElem?_toList, e1]; rfl
    have hx0 := arr_eq e2; subst hx0
    rw [show Array.map a.eval [x].toArray = #[a.eval x] from by simp]
    obtain ⟨ti, h0, hco⟩ := ob_eq.1 hco
    obtain ⟨e, h1, hco⟩ := ob_eq.1 hco
    obtain ⟨i, d, z, ht⟩ := hE.ty _ _ h0
    split at hco
    · rename_i e' hk
      obtain ⟨ei, h2, hco⟩ := ob_eq.1 hco
      cases hco
      obtain ⟨i', d', z', he⟩ := hE.ty _ _ h2
      exact fin (rCap_run ht he h2 hk hts hE.cur (opE1 hO h1) hr)
    · cases hco
  · rename_i t u' _ s x e1 e2
    obtain ⟨ti, h0, hco⟩ := ob_eq.1 hco
    obtain ⟨ui, h1, hco⟩ := ob_eq.1 hco
    obtain ⟨e, h2, hco⟩ := ob_eq.1 hco
    obtain ⟨e', h3, hco⟩ := ob_eq.1 hco
    split at hco
    · obtain ⟨ei, h4, hco⟩ := ob_eq.1 hco; cases hco
    · obtain ⟨ei, h4, hco⟩ := ob_eq.1 hco; cases hco
    · obtain ⟨ei, h4, hco⟩ := ob_eq.1 hco; rw [fL_eq] at hco; cases hco
    · cases hco
  · obtain ⟨ti, h0, hco⟩ := ob_eq.1 hco
    obtain ⟨e, h1, hco⟩ := ob_eq.1 hco
    split at hco
    · cases hco
    · obtain ⟨ei, h4, hco⟩ := ob_eq.1 hco; rw [fL_eq] at hco; cases hco
    · cases hco
  · obtain ⟨ti, h0, hco⟩ := ob_eq.1 hco
    obtain ⟨e, h1, hco⟩ := ob_eq.1 hco
    obtain ⟨e', h2, hco⟩ := ob_eq.1 hco
    split at hco
    · obtain ⟨ei, h4, hco⟩ := ob_eq.1 hco; cases hco
    · cases hco
  · obtain ⟨ti, h0, hco⟩ := ob_eq.1 hco
    obtain ⟨e, h1, hco⟩ := ob_eq.1 hco
    obtain ⟨e', h2, hco⟩ := ob_eq.1 hco
    split at hco
    · obtain ⟨ei, h4, hco⟩ := ob_eq.1 hco
      obtain ⟨kk, h5, hco⟩ := ob_eq.1 hco
      cases hco
    · cases hco
  · rename_i x xs e2
    have hx0 := arr_eq e2; subst hx0
    obtain ⟨e, h1, hco⟩ := ob_eq.1 hco
    obtain ⟨es, h2, hco⟩ := ob_eq.1 hco
    cases hco
    have := rMinMax_run (P := P) (W := W) hE.sy (opE1 hO h1) (OpsR.evs (hO.mono fun y hy => List.mem_cons_of_mem _ hy) h2) hr
    refine fin ?_
    obtain ⟨w, h3, h4⟩ := this
    refine ⟨w, ?_, h4⟩
    rw [← h3]
    simp [Builtin.max_, two]
  · rename_i x xs e2
    have hx0 := arr_eq e2; subst hx0
    obtain ⟨e, h1, hco⟩ := ob_eq.1 hco
    obtain ⟨es, h2, hco⟩ := ob_eq.1 hco
    cases hco
    have := rMinMax_run (P := P) (W := W) hE.sy (opE1 hO h1) (OpsR.evs (hO.mono fun y hy => List.mem_cons_of_mem _ hy) h2) hr
    refine fin ?_
    obtain ⟨w, h3, h4⟩ := this
    refine ⟨w, ?_, h4⟩
    rw [← h3]
    simp [Builtin.min_, two]
  · obtain ⟨ti, h0, hco⟩ := ob_eq.1 hco
    obtain ⟨e, h1, hco⟩ := ob_eq.1 hco
    obtain ⟨e', h2, hco⟩ := ob_eq.1 hco
    split at hco
    · obtain ⟨ei, h4, hco⟩ := ob_eq.1 hco
      obtain ⟨_, hco⟩ := gd_eq.1 hco
      cases hco
    · cases hco
  · rename_i x e2
    have hx0 := arr_eq e2; subst hx0
    rw [show Array.map a.eval [x].toArray = #[a.eval x] from by simp]
    obtain ⟨e, h1, hco⟩ := ob_eq.1 hco
    cases hco
    exact fin (rUsData_run (opE1 hO h1) hr)
  · cases hco
end
end Eng

/- Readings: every operation that reads. -/
namespace Eng
open Go

section
variable {P : Program} {S : Sym} {φ φ0 : Mp} {h : H} {W W0 : World} {f : FT} {l : List V} {c : Cx} {env : Env} {n : Nat} {a : Act} {v : V} {b : Bool} {r : Rd}

theorem fin_rd {s : Sem Value} (h : RdA P S φ W v s) : ∃ w, ((do pure (.value (← s)) : Sem Next)).run P W = .ok (.value w) W ∧ VR S φ v w := by
  obtain ⟨w, h1, h2⟩ := h
  exact ⟨w, by rw [Sem.run_bind, h1]; rfl, h2⟩
theorem rd_sound {o : Oper} (hE : RdE P S c φ W h b φ0 W0) (hO : OpsR S φ c env n f l a o.op.operands.toList) (hco : cOp c env n o = some (.rd b r)) (hr : r f l h = some v) :
    ∃ w, (execOp a.eval o).run P W = .ok (.value w) W ∧ VR S φ v w := by
  obtain ⟨dst, op, ty', pos, af, gu⟩ := o
  unfold cOp at hco
  cases op <;> simp only [cOpF] at hco
  case move x => obtain ⟨w, h1, h2⟩ := cMove_sound hO hco hr (P := P) (W := W); cases h1; exact ⟨_, rfl, h2⟩
  case assign x => obtain ⟨w, h1, h2⟩ := cMove_sound hO hco hr (P := P) (W := W); cases h1; exact ⟨_, rfl, h2⟩
  case pick p x y =>
    obtain ⟨w, h1, h2⟩ := cPick_sound hO hco hr (P := P) (W := W)
    refine ⟨w, ?_, h2⟩
    show ((do pure (Next.value (if ← asBool (a.eval p) then a.eval x else a.eval y)) : Sem Next)).run P W = _
    rw [Sem.run_bind] at h1 ⊢
    cases hb : (asBool (a.eval p)).run P W with
    | ok t W1 => rw [hb] at h1; simp at h1 ⊢; exact ⟨h1.1, h1.2⟩
    | halt q W1 => rw [hb] at h1; simp at h1
  case build t ps => exact fin_rd (cBuild_sound hE hO hco hr)
  case load t x => exact fin_rd (cLoad_sound hE hO hco hr)
  case nilCheck x =>
    obtain ⟨e, h1, hco⟩ := ob_eq.1 hco
    cases hco
    exact nchk_run (o := ⟨dst, .nilCheck x, ty', pos, af, gu⟩) rfl (opE1 hO h1) hr
  case binOp op t x y yt => exact fin_rd (cBinOp_sound hE hO hco hr)
  case unOp op t x => exact fin_rd (cUnOp_sound hO hco hr)
  case convert s d x => exact fin_rd (cConvert_sound hE hO hco hr)
  case makeInterface t x => exact fin_rd (cMakeInterface_sound hE hO hco hr)
  case makeFunc fn xs ys => exact fin_rd (cMakeFunc_sound (by simpa [Op.operands] using hO) hco hr)
  case slice t x lo hi mx => exact fin_rd (cSlice_sound hE (by simpa [Op.operands] using hO) hco hr)
  case fieldAddr t x k => exact fin_rd (cFieldAddr_sound hE hO hco hr)
  case field t x k => exact fin_rd (cField_sound hE hO hco hr)
  case indexAddr t x y => exact fin_rd (cIndexAddr_sound hE hO hco hr)
  case index t x y => exact fin_rd (cIndex_sound hE hO hco hr)
  case lookup t x y ok => exact fin_rd (cLookup_sound hE hO hco hr)
  case entry x => exact fin_rd (cEntry_sound hE hO hco hr)
  case typeAssert x u t ok => exact fin_rd (cTypeAssert_sound hE hO hco hr)
  case extract x i => exact fin_rd (cExtract_sound hO hco hr)
  case call p =>
    obtain ⟨cal, args, ts⟩ := p
    cases cal with
    | builtin bi =>
      obtain ⟨w, h1, h2⟩ := cBuiltin_sound hE (by simpa [Op.operands, Call.operands] using hO) hco hr ty' (args.map fun | .const _ => true | _ => false)
      exact ⟨w, h1, h2⟩
    | invoke x name =>
      obtain ⟨e, _, hco⟩ := ob_eq.1 hco
      obtain ⟨e', _, hco⟩ := ob_eq.1 hco
      cases hco
    | value x =>
      cases x with
      | func g =>
        obtain ⟨e, _, hco⟩ := ob_eq.1 hco
        cases hco
      | _ =>
        obtain ⟨e, _, hco⟩ := ob_eq.1 hco
        obtain ⟨e', _, hco⟩ := ob_eq.1 hco
        cases hco
  case alloc e =>
    obtain ⟨ti, _, hco⟩ := ob_eq.1 hco
    rw [fL_eq] at hco; cases hco
  case box e x =>
    obtain ⟨ti, _, hco⟩ := ob_eq.1 hco
    cases hco
  case buildSlice t len ps =>
    obtain ⟨ti, _, hco⟩ := ob_eq.1 hco
    split at hco
    · obtain ⟨ei, _, hco⟩ := ob_eq.1 hco
      obtain ⟨_, hco⟩ := gd_eq.1 hco
      obtain ⟨p, _, hco⟩ := ob_eq.1 hco
      rw [fL_eq] at hco; cases hco
    · cases hco
  case store t x y =>
    obtain ⟨ti, _, hco⟩ := ob_eq.1 hco
    obtain ⟨e1, _, hco⟩ := ob_eq.1 hco
    obtain ⟨e2, _, hco⟩ := ob_eq.1 hco
    cases hg : ti.agg with
    | true => rw [hg] at hco; cases hco
    | false => rw [hg] at hco; obtain ⟨_, hco⟩ := gd_eq.1 hco; cases hco
  case makeMap t q => cases q <;> cases hco
  case makeSlice t x y =>
    obtain ⟨ti, _, hco⟩ := ob_eq.1 hco
    obtain ⟨e1, _, hco⟩ := ob_eq.1 hco
    obtain ⟨e2, _, hco⟩ := ob_eq.1 hco
    split at hco
    · obtain ⟨ei, _, hco⟩ := ob_eq.1 hco
      rw [fL_eq] at hco; cases hco
    · cases hco
  case mapUpdate t m k x =>
    obtain ⟨ti, _, hco⟩ := ob_eq.1 hco
    obtain ⟨e1, _, hco⟩ := ob_eq.1 hco
    obtain ⟨e2, _, hco⟩ := ob_eq.1 hco
    obtain ⟨e3, _, hco⟩ := ob_eq.1 hco
    split at hco
    · obtain ⟨ki, _, hco⟩ := ob_eq.1 hco
      obtain ⟨kk, _, hco⟩ := ob_eq.1 hco
      cases hco
    · cases hco
  case insert t m k x =>
    obtain ⟨ti, _, hco⟩ := ob_eq.1 hco
    obtain ⟨e1, _, hco⟩ := ob_eq.1 hco
    obtain ⟨e2, _, hco⟩ := ob_eq.1 hco
    obtain ⟨e3, _, hco⟩ := ob_eq.1 hco
    split at hco
    · obtain ⟨ki, _, hco⟩ := ob_eq.1 hco
      obtain ⟨kk, _, hco⟩ := ob_eq.1 hco
      cases hco
    · cases hco
  case range t x =>
    obtain ⟨ti, _, hco⟩ := ob_eq.1 hco
    obtain ⟨e1, _, hco⟩ := ob_eq.1 hco
    split at hco <;> cases hco
  case next x s =>
    obtain ⟨e1, _, hco⟩ := ob_eq.1 hco
    cases s <;> cases hco
  all_goals cases hco
end
end Eng

/- Which operations read, make a block, turn the heap, or have many outcomes. -/
namespace Eng
open Go

def CO.k : CO → Nat
  | .rd _ _ => 0
  | .al _ => 1
  | .ef _ => 2
  | .mu _ => 3
theorem bc_eq {β : Type} {b : Bool} {x y : Option β} {r : β} : (Bool.casesOn b x y : Option β) = some r ↔ (b = false ∧ x = some r) ∨ (b = true ∧ y = some r) := by
  cases b <;> simp
section
variable {c : Cx} {env : Env} {n : Nat} {co : CO}
theorem k_move {x : Operand} (h : cMove x c env n = some co) : co.k = 0 := by
  unfold cMove at h
  obtain ⟨_, _, h⟩ := ob_eq.1 h
  cases h; rfl
theorem k_pick {x y z : Operand} (h : cPick x y z c env n = some co) : co.k = 0 := by
  unfold cPick at h
  obtain ⟨_, _, h⟩ := ob_eq.1 h
  obtain ⟨_, _, h⟩ := ob_eq.1 h
  obtain ⟨_, _, h⟩ := ob_eq.1 h
  cases h; rfl
theorem k_alloc {e : Nat} (h : cAlloc e c env n = some co) : co.k = 1 := by
  unfold cAlloc at h
  obtain ⟨_, _, h⟩ := ob_eq.1 h
  rw [fL_eq] at h
  cases h; rfl
theorem k_box {e : Nat} {x : Operand} (h : cBox e x c env n = some co) : co.k = 1 := by
  unfold cBox at h
  obtain ⟨_, _, h⟩ := ob_eq.1 h
  cases h; rfl
theorem k_build {t : Nat} {ps : Array (Nat × Operand)} (h : cBuild t ps c env n = some co) : co.k = 0 := by
  unfold cBuild at h
  obtain ⟨_, _, h⟩ := ob_eq.1 h
  rw [fL_eq] at h
  split at h
  · obtain ⟨_, _, h⟩ := ob_eq.1 h
    cases h; rfl
  · obtain ⟨_, _, h⟩ := ob_eq.1 h
    obtain ⟨_, _, h⟩ := ob_eq.1 h
    cases h; rfl
  · cases h
theorem k_buildSlice {t len : Nat} {ps : Array (Nat × Operand)} (h : cBuildSlice t len ps c env n = some co) : co.k = 1 := by
  unfold cBuildSlice at h
  obtain ⟨_, _, h⟩ := ob_eq.1 h
  split at h
  · obtain ⟨_, _, h⟩ := ob_eq.1 h
    obtain ⟨_, h⟩ := gd_eq.1 h
    obtain ⟨_, _, h⟩ := ob_eq.1 h
    rw [fL_eq] at h
    cases h; rfl
  · cases h
theorem k_load {t : Nat} {x : Operand} (h : cLoad t x c env n = some co) : co.k = 0 := by
  unfold cLoad at h
  obtain ⟨_, _, h⟩ := ob_eq.1 h
  obtain ⟨_, _, h⟩ := ob_eq.1 h
  rcases bc_eq.1 h with ⟨_, h⟩ | ⟨_, h⟩ <;> (cases h; rfl)
theorem k_store {t : Nat} {x y : Operand} (h : cStore t x y c env n = some co) : co.k = 2 := by
  unfold cStore at h
  obtain ⟨_, _, h⟩ := ob_eq.1 h
  obtain ⟨_, _, h⟩ := ob_eq.1 h
  obtain ⟨_, _, h⟩ := ob_eq.1 h
  rcases bc_eq.1 h with ⟨_, h⟩ | ⟨_, h⟩
  · obtain ⟨_, h⟩ := gd_eq.1 h
    cases h; rfl
  · cases h; rfl
theorem k_nilCheck {x : Operand} (h : cNilCheck x c env n = some co) : co.k = 0 := by
  unfold cNilCheck at h
  obtain ⟨_, _, h⟩ := ob_eq.1 h
  cases h; rfl
theorem k_binOp {op : BinOp} {t : Nat} {x y : Operand} (h : cBinOp op t x y c env n = some co) : co.k = 0 := by
  unfold cBinOp at h
  obtain ⟨_, _, h⟩ := ob_eq.1 h
  obtain ⟨_, _, h⟩ := ob_eq.1 h
  obtain ⟨_, _, h⟩ := ob_eq.1 h
  split at h
  · split at h
    · cases h; rfl
    · cases h; rfl
    · rcases bc_eq.1 h with ⟨_, h⟩ | ⟨_, h⟩ <;> (cases h; rfl)
  · cases h; rfl
  · obtain ⟨_, _, h⟩ := ob_eq.1 h
    split at h <;> first | (cases h; done) | (cases h; rfl)
  · cases h
  · obtain ⟨_, _, h⟩ := ob_eq.1 h
    split at h <;> first | (cases h; done) | (cases h; rfl)
theorem k_unOp {op : UnOp} {x : Operand} (h : cUnOp op x c env n = some co) : co.k = 0 := by
  unfold cUnOp at h
  obtain ⟨_, _, h⟩ := ob_eq.1 h
  split at h <;> first | (cases h; done) | (cases h; rfl)
theorem k_convert {s d : Nat} {x : Operand} (h : cConvert s d x c env n = some co) : co.k ≤ 1 := by
  unfold cConvert at h
  obtain ⟨_, _, h⟩ := ob_eq.1 h
  obtain ⟨_, _, h⟩ := ob_eq.1 h
  obtain ⟨_, _, h⟩ := ob_eq.1 h
  split at h
  · cases h; simp [CO.k]
  · cases h; simp [CO.k]
  · obtain ⟨_, _, h⟩ := ob_eq.1 h
    obtain ⟨_, h⟩ := gd_eq.1 h
    cases h; simp [CO.k]
  · obtain ⟨_, _, h⟩ := ob_eq.1 h
    obtain ⟨_, h⟩ := gd_eq.1 h
    cases h; simp [CO.k]
  · cases h; simp [CO.k]
  · obtain ⟨_, _, h⟩ := ob_eq.1 h
    obtain ⟨_, h⟩ := gd_eq.1 h
    cases h; simp [CO.k]
  · obtain ⟨_, _, h⟩ := ob_eq.1 h
    obtain ⟨_, h⟩ := gd_eq.1 h
    cases h; simp [CO.k]
  · cases h
theorem k_makeInterface {t : Nat} {x : Operand} (h : cMakeInterface t x c env n = some co) : co.k = 0 := by
  unfold cMakeInterface at h
  obtain ⟨_, _, h⟩ := ob_eq.1 h
  split at h
  · cases h
  · obtain ⟨_, _, h⟩ := ob_eq.1 h
    cases h; rfl
theorem k_makeFunc {fn : Fn} {x y : Array Operand} (h : cMakeFunc fn x y c env n = some co) : co.k = 0 := by
  unfold cMakeFunc at h
  obtain ⟨_, _, h⟩ := ob_eq.1 h
  obtain ⟨_, _, h⟩ := ob_eq.1 h
  cases h; rfl
theorem k_makeMap {r : Option Operand} (h : cMakeMap r c env n = some co) : co.k = 1 := by
  unfold cMakeMap at h
  split at h <;> first | (cases h; done) | (cases h; rfl)
theorem k_makeSlice {t : Nat} {x y : Operand} (h : cMakeSlice t x y c env n = some co) : co.k = 1 := by
  unfold cMakeSlice at h
  obtain ⟨_, _, h⟩ := ob_eq.1 h
  obtain ⟨_, _, h⟩ := ob_eq.1 h
  obtain ⟨_, _, h⟩ := ob_eq.1 h
  split at h
  · obtain ⟨_, _, h⟩ := ob_eq.1 h
    rw [fL_eq] at h
    cases h; rfl
  · cases h
theorem k_slice {t : Nat} {x : Operand} {lo hi mx : Option Operand} (h : cSlice t x lo hi mx c env n = some co) : co.k = 0 := by
  unfold cSlice at h
  obtain ⟨_, _, h⟩ := ob_eq.1 h
  obtain ⟨_, _, h⟩ := ob_eq.1 h
  obtain ⟨_, _, h⟩ := ob_eq.1 h
  obtain ⟨_, _, h⟩ := ob_eq.1 h
  split at h
  · split at h <;> first | (cases h; done) | (cases h; rfl)
  · obtain ⟨_, _, h⟩ := ob_eq.1 h
    split at h
    · cases h; rfl
    · obtain ⟨_, _, h⟩ := ob_eq.1 h
      obtain ⟨_, _, h⟩ := ob_eq.1 h
      cases h; rfl
  · obtain ⟨_, _, h⟩ := ob_eq.1 h
    split at h <;> first | (cases h; done) | (cases h; rfl)
  · cases h
theorem k_fieldAddr {t f : Nat} {x : Operand} (h : cFieldAddr t x f c env n = some co) : co.k = 0 := by
  unfold cFieldAddr at h
  obtain ⟨_, _, h⟩ := ob_eq.1 h
  obtain ⟨_, _, h⟩ := ob_eq.1 h
  split at h
  · obtain ⟨_, _, h⟩ := ob_eq.1 h
    obtain ⟨_, _, h⟩ := ob_eq.1 h
    obtain ⟨_, h⟩ := gd_eq.1 h
    cases h; rfl
  · cases h
theorem k_field {t f : Nat} {x : Operand} (h : cField t x f c env n = some co) : co.k = 0 := by
  unfold cField at h
  obtain ⟨_, _, h⟩ := ob_eq.1 h
  obtain ⟨_, _, h⟩ := ob_eq.1 h
  split at h
  · obtain ⟨_, _, h⟩ := ob_eq.1 h
    obtain ⟨_, _, h⟩ := ob_eq.1 h
    rcases bc_eq.1 h with ⟨_, h⟩ | ⟨_, h⟩ <;> (cases h; rfl)
  · cases h
theorem k_indexAddr {t : Nat} {x y : Operand} (h : cIndexAddr t x y c env n = some co) : co.k = 0 := by
  unfold cIndexAddr at h
  obtain ⟨_, _, h⟩ := ob_eq.1 h
  obtain ⟨_, _, h⟩ := ob_eq.1 h
  obtain ⟨_, _, h⟩ := ob_eq.1 h
  split at h
  · obtain ⟨_, _, h⟩ := ob_eq.1 h
    cases h; rfl
  · obtain ⟨_, _, h⟩ := ob_eq.1 h
    cases h; rfl
  · cases h
theorem k_index {t : Nat} {x y : Operand} (h : cIndex t x y c env n = some co) : co.k = 0 := by
  unfold cIndex at h
  obtain ⟨_, _, h⟩ := ob_eq.1 h
  obtain ⟨_, _, h⟩ := ob_eq.1 h
  obtain ⟨_, _, h⟩ := ob_eq.1 h
  split at h
  · cases h; rfl
  · obtain ⟨_, _, h⟩ := ob_eq.1 h
    rcases bc_eq.1 h with ⟨_, h⟩ | ⟨_, h⟩ <;> (cases h; rfl)
  · cases h
theorem k_lookup {t : Nat} {x y : Operand} {ok : Bool} (h : cLookup t x y ok c env n = some co) : co.k = 0 := by
  unfold cLookup at h
  obtain ⟨_, _, h⟩ := ob_eq.1 h
  obtain ⟨_, _, h⟩ := ob_eq.1 h
  obtain ⟨_, _, h⟩ := ob_eq.1 h
  split at h
  · obtain ⟨_, _, h⟩ := ob_eq.1 h
    obtain ⟨_, _, h⟩ := ob_eq.1 h
    obtain ⟨_, _, h⟩ := ob_eq.1 h
    cases h; rfl
  · cases h
theorem k_mapUpdate {t : Nat} {x y z : Operand} (h : cMapUpdate t x y z c env n = some co) : co.k = 2 := by
  unfold cMapUpdate at h
  obtain ⟨_, _, h⟩ := ob_eq.1 h
  obtain ⟨_, _, h⟩ := ob_eq.1 h
  obtain ⟨_, _, h⟩ := ob_eq.1 h
  obtain ⟨_, _, h⟩ := ob_eq.1 h
  split at h
  · obtain ⟨_, _, h⟩ := ob_eq.1 h
    obtain ⟨_, _, h⟩ := ob_eq.1 h
    cases h; rfl
  · cases h
theorem k_range {t : Nat} {x : Operand} (h : cRange t x c env n = some co) : co.k = 1 ∨ co.k = 2 := by
  unfold cRange at h
  obtain ⟨_, _, h⟩ := ob_eq.1 h
  obtain ⟨_, _, h⟩ := ob_eq.1 h
  split at h
  · cases h; exact .inl rfl
  · cases h; exact .inr rfl
  · cases h
theorem k_next {x : Operand} {s : Bool} (h : cNext x s c env n = some co) : co.k = bif s then 2 else 3 := by
  unfold cNext at h
  obtain ⟨_, _, h⟩ := ob_eq.1 h
  rcases bc_eq.1 h with ⟨rfl, h⟩ | ⟨rfl, h⟩ <;> (cases h; rfl)
theorem k_entry {x : Operand} (h : cEntry x c env n = some co) : co.k = 0 := by
  unfold cEntry at h
  obtain ⟨_, _, h⟩ := ob_eq.1 h
  cases h; rfl
theorem k_typeAssert {t : Nat} {x : Operand} {ok : Bool} (h : cTypeAssert x t ok c env n = some co) : co.k = 0 := by
  unfold cTypeAssert at h
  obtain ⟨_, _, h⟩ := ob_eq.1 h
  obtain ⟨_, _, h⟩ := ob_eq.1 h
  split at h
  · cases h
  · cases h; rfl
theorem k_extract {i : Nat} {x : Operand} (h : cExtract x i c env n = some co) : co.k = 0 := by
  unfold cExtract at h
  obtain ⟨_, _, h⟩ := ob_eq.1 h
  cases h; rfl
theorem k_builtin {b : Builtin} {ts : List Nat} {xs : List Operand} (h : cBuiltin c env n b ts xs = some co) : co.k = 0 ∨ co.k = 2 := by
  unfold cBuiltin at h
  split at h
  · obtain ⟨_, _, h⟩ := ob_eq.1 h
    obtain ⟨_, _, h⟩ := ob_eq.1 h
    split at h <;> first | (cases h; done) | (cases h; exact .inl rfl)
  · obtain ⟨_, _, h⟩ := ob_eq.1 h
    obtain ⟨_, _, h⟩ := ob_eq.1 h
    split at h
    · obtain ⟨_, _, h⟩ := ob_eq.1 h
      cases h; exact .inl rfl
    · cases h
  · obtain ⟨_, _, h⟩ := ob_eq.1 h
    obtain ⟨_, _, h⟩ := ob_eq.1 h
    obtain ⟨_, _, h⟩ := ob_eq.1 h
    obtain ⟨_, _, h⟩ := ob_eq.1 h
    split at h
    · obtain ⟨_, _, h⟩ := ob_eq.1 h
      cases h; exact .inr rfl
    · obtain ⟨_, _, h⟩ := ob_eq.1 h
      cases h; exact .inr rfl
    · obtain ⟨_, _, h⟩ := ob_eq.1 h
      rw [fL_eq] at h
      cases h; exact .inr rfl
    · cases h
  · obtain ⟨_, _, h⟩ := ob_eq.1 h
    obtain ⟨_, _, h⟩ := ob_eq.1 h
    split at h
    · cases h; exact .inr rfl
    · obtain ⟨_, _, h⟩ := ob_eq.1 h
      rw [fL_eq] at h
      cases h; exact .inr rfl
    · cases h
  · obtain ⟨_, _, h⟩ := ob_eq.1 h
    obtain ⟨_, _, h⟩ := ob_eq.1 h
    obtain ⟨_, _, h⟩ := ob_eq.1 h
    split at h
    · obtain ⟨_, _, h⟩ := ob_eq.1 h
      cases h; exact .inr rfl
    · cases h
  · obtain ⟨_, _, h⟩ := ob_eq.1 h
    obtain ⟨_, _, h⟩ := ob_eq.1 h
    obtain ⟨_, _, h⟩ := ob_eq.1 h
    split at h
    · obtain ⟨_, _, h⟩ := ob_eq.1 h
      obtain ⟨_, _, h⟩ := ob_eq.1 h
      cases h; exact .inr rfl
    · cases h
  · obtain ⟨_, _, h⟩ := ob_eq.1 h
    obtain ⟨_, _, h⟩ := ob_eq.1 h
    cases h; exact .inl rfl
  · obtain ⟨_, _, h⟩ := ob_eq.1 h
    obtain ⟨_, _, h⟩ := ob_eq.1 h
    cases h; exact .inl rfl
  · obtain ⟨_, _, h⟩ := ob_eq.1 h
    obtain ⟨_, _, h⟩ := ob_eq.1 h
    obtain ⟨_, _, h⟩ := ob_eq.1 h
    split at h
    · obtain ⟨_, _, h⟩ := ob_eq.1 h
      obtain ⟨_, h⟩ := gd_eq.1 h
      cases h; exact .inr rfl
    · cases h
  · obtain ⟨_, _, h⟩ := ob_eq.1 h
    cases h; exact .inl rfl
  · cases h
theorem k_call {p : Call} (h : cCall p c env n = some co) : co.k = 0 ∨ co.k = 2 ∨ co.k = 3 := by
  unfold cCall at h
  split at h
  · rcases k_builtin h with e | e
    · exact .inl e
    · exact .inr (.inl e)
  · obtain ⟨_, _, h⟩ := ob_eq.1 h
    obtain ⟨_, _, h⟩ := ob_eq.1 h
    cases h; exact .inr (.inr rfl)
  · obtain ⟨_, _, h⟩ := ob_eq.1 h
    cases h; exact .inr (.inr rfl)
  · obtain ⟨_, _, h⟩ := ob_eq.1 h
    obtain ⟨_, _, h⟩ := ob_eq.1 h
    cases h; exact .inr (.inr rfl)
end
end Eng

/- Every operation that makes one new block. -/
namespace Eng
open Go

/-- The new block, and what any reckoning of it by the engine says. -/
def AlA (P : Program) (S : Sym) (c : Cx) (o : Oper) (a : Act) (W : World) : Prop :=
  ∃ w o' L k, (execOp a.eval o).run P W = .ok (.value w) { W with heap := W.heap.push o', drawn := k } ∧ L.c = W.heap.size ∧
    ∀ φ env n f l al ob mk b, cOp c env n o = some (.al al) → OpsR S φ c env n f l a o.op.operands.toList → al f l = some (ob, mk) → φ b = some L → OAt S c.ty φ ob L o' ∧ VR S φ (mk b) w

section
variable {P : Program} {S : Sym} {φ : Mp} {W : World} {f : FT} {l : List V} {c : Cx} {env : Env} {n : Nat} {a : Act} {al : Al} {ob' : Eng.Obj} {mk : Nat → V}

theorem exv {s : Sem Value} {w : Value} {W' : World} (h : s.run P W = .ok w W') : ((do pure (.value (← s)) : Sem Next)).run P W = .ok (.value w) W' := by
  rw [Sem.run_bind, h]; rfl
theorem al_alloc (hT : TyOK P c.ty) {e : Nat} {dst ty' pos af gu} (hco : cAlloc e c env n = some (.al al)) : AlA P S c ⟨dst, .alloc e, ty', pos, af, gu⟩ a W := by
  obtain ⟨ti, h0, hco⟩ := ob_eq.1 hco
  obtain ⟨i, d, z, ht⟩ := hT _ _ h0
  refine ⟨_, _, ⟨W.heap.size, z.cells.size, esOf c.ty e⟩, W.drawn, exv (aAlloc_run ht), rfl, ?_⟩
  intro φ env n f l al ob mk b hco hO hr hb
  replace hco : cAlloc e c env n = some (.al al) := hco
  obtain ⟨ti', h0', hco⟩ := ob_eq.1 hco
  rw [h0] at h0'; cases h0'
  rw [fL_eq] at hco; cases hco
  exact aAlloc_rel ht hr hb
theorem al_box {e : Nat} {x : Operand} {dst ty' pos af gu} : AlA P S c ⟨dst, .box e x, ty', pos, af, gu⟩ a W := by
  refine ⟨_, _, ⟨W.heap.size, (a.eval x).cells.size, esOf c.ty e⟩, W.drawn, exv aBox_run, rfl, ?_⟩
  intro φ env n f l al ob mk b hco hO hr hb
  replace hco : cBox e x c env n = some (.al al) := hco
  obtain ⟨ex, h1, hco⟩ := ob_eq.1 hco
  cases hco
  exact aBox_rel (opE1 hO h1) hr hb
theorem al_makeMap {t : Nat} {q : Option Operand} {dst ty' pos af gu} (hco : cMakeMap q c env n = some (.al al)) : AlA P S c ⟨dst, .makeMap t q, ty', pos, af, gu⟩ a W := by
  cases q with
  | some x => cases hco
  | none =>
    refine ⟨_, _, ⟨W.heap.size, 0, 0⟩, W.drawn, exv aMkMap_run, rfl, ?_⟩
    intro φ env n f l al ob mk b hco hO hr hb
    cases hco
    exact aMkMap_rel hr hb
theorem al_buildSlice (hT : TyOK P c.ty) {t len : Nat} {ps : Array (Nat × Operand)} {dst ty' pos af gu} (hO : OpsR S φ c env n f l a (ps.toList.map (·.2))) (hco : cBuildSlice t len ps c env n = some (.al al)) (hr : al f l = some (ob', mk)) :
    AlA P S c ⟨dst, .buildSlice t len ps, ty', pos, af, gu⟩ a W := by
  obtain ⟨ti, h0, hco⟩ := ob_eq.1 hco
  obtain ⟨i, d, z, ht⟩ := hT _ _ h0
  split at hco
  · rename_i e hk
    obtain ⟨ei, h1, hco⟩ := ob_eq.1 hco
    obtain ⟨h2, hco⟩ := gd_eq.1 hco
    obtain ⟨p, h3, hco⟩ := ob_eq.1 hco
    rw [fL_eq] at hco; cases hco
    rw [natBle_eq] at h2
    obtain ⟨i', d', z', he⟩ := hT _ _ h1
    obtain ⟨a', h4, h5⟩ := aBSlice_run (P := P) (W := W) (t := t) (ps := ps.map fun q => (q.1, a.eval q.2)) ht he hk h2 (by rw [Array.toList_map]; exact rowParts_fill h3 hO) hr
    refine ⟨_, _, ⟨W.heap.size, a'.size, esOf c.ty e⟩, W.drawn, exv h5, rfl, ?_⟩
    intro φ env n f l al ob mk b hco hO hr hb
    replace hco : cBuildSlice t len ps c env n = some (.al al) := hco
    obtain ⟨ti', h0', hco⟩ := ob_eq.1 hco
    rw [h0] at h0'; cases h0'
    rw [hk] at hco
    obtain ⟨ei', h1', hco⟩ := ob_eq.1 hco
    rw [h1] at h1'; cases h1'
    obtain ⟨_, hco⟩ := gd_eq.1 hco
    obtain ⟨p', h3', hco⟩ := ob_eq.1 hco
    rw [fL_eq] at hco; cases hco
    exact aBSlice_rel he h2 (by rw [Array.toList_map]; exact rowParts_fill h3' (by simpa [Op.operands] using hO)) hr h4 hb
  · cases hco
theorem al_makeSlice (hT : TyOK P c.ty) {t : Nat} {x y : Operand} {dst ty' pos af gu} (hO : OpsR S φ c env n f l a [x, y]) (hco : cMakeSlice t x y c env n = some (.al al)) (hr : al f l = some (ob', mk)) :
    AlA P S c ⟨dst, .makeSlice t x y, ty', pos, af, gu⟩ a W := by
  obtain ⟨ti, h0, hco⟩ := ob_eq.1 hco
  obtain ⟨e1, h1, hco⟩ := ob_eq.1 hco
  obtain ⟨e2, h2, hco⟩ := ob_eq.1 hco
  obtain ⟨i, d, z, ht⟩ := hT _ _ h0
  split at hco
  · rename_i e hk
    obtain ⟨ei, h3, hco⟩ := ob_eq.1 hco
    rw [fL_eq] at hco; cases hco
    obtain ⟨i', d', z', he⟩ := hT _ _ h3
    obtain ⟨kx, ky, p, q, hx, hy, h4, h5, h6⟩ := aMkSlice_run (P := P) (W := W) ht he hk (opE1 hO h1) (opE2 hO h2) hr
    refine ⟨_, _, ⟨W.heap.size, (repL z'.cells.toList q).toArray.size, esOf c.ty e⟩, W.drawn, exv h6, rfl, ?_⟩
    intro φ env n f l al ob mk b hco hO hr hb
    replace hco : cMakeSlice t x y c env n = some (.al al) := hco
    obtain ⟨ti', h0', hco⟩ := ob_eq.1 hco
    rw [h0] at h0'; cases h0'
    obtain ⟨e1', h1', hco⟩ := ob_eq.1 hco
    obtain ⟨e2', h2', hco⟩ := ob_eq.1 hco
    rw [hk] at hco
    obtain ⟨ei', h3', hco⟩ := ob_eq.1 hco
    rw [h3] at h3'; cases h3'
    rw [fL_eq] at hco; cases hco
    exact aMkSlice_rel he (hx ▸ opE1 hO h1') (hy ▸ opE2 hO h2') h4 h5 hr hb
  · cases hco
theorem cConvert_al {s d : Nat} {x : Operand} (hco : cConvert s d x c env n = some (.al al)) : ∃ si di e ei ex, c.ty s = some si ∧ c.ty d = some di ∧ si.d = .str ∧ di.d = .slc e ∧ c.ty e = some ei ∧ isU8 ei = true ∧ opE c env n x = some ex ∧ al = aCsb e ex := by
  obtain ⟨si, h0, hco⟩ := ob_eq.1 hco
  obtain ⟨di, h1, hco⟩ := ob_eq.1 hco
  obtain ⟨ex, h2, hco⟩ := ob_eq.1 hco
  split at hco
  · cases hco
  · cases hco
  · rename_i e e1 e2
    obtain ⟨ei, h3, hco⟩ := ob_eq.1 hco
    obtain ⟨h4, hco⟩ := gd_eq.1 hco
    cases hco
    exact ⟨si, di, e, ei, ex, h0, h1, e1, e2, h3, h4, h2, rfl⟩
  · obtain ⟨ei, h3, hco⟩ := ob_eq.1 hco
    obtain ⟨h4, hco⟩ := gd_eq.1 hco
    cases hco
  · cases hco
  · obtain ⟨ei, h3, hco⟩ := ob_eq.1 hco
    obtain ⟨h4, hco⟩ := gd_eq.1 hco
    cases hco
  · obtain ⟨ei, h3, hco⟩ := ob_eq.1 hco
    obtain ⟨h4, hco⟩ := gd_eq.1 hco
    cases hco
  · cases hco
theorem al_convert (hT : TyOK P c.ty) {s d : Nat} {x : Operand} {dst ty' pos af gu} (hO : OpsR S φ c env n f l a [x]) (hco : cConvert s d x c env n = some (.al al)) (hr : al f l = some (ob', mk)) :
    AlA P S c ⟨dst, .convert s d x, ty', pos, af, gu⟩ a W := by
  obtain ⟨si, di, e, ei, ex, h0, h1, h2, h3, h4, h5, h6, rfl⟩ := cConvert_al hco
  obtain ⟨i, dd, z, hs⟩ := hT _ _ h0
  obtain ⟨i', dd', z', hd⟩ := hT _ _ h1
  obtain ⟨i'', dd'', z'', he⟩ := hT _ _ h4
  obtain ⟨str, cap, k, hx, h7, h8, h9⟩ := aCsb_sound (P := P) (W := W) hs hd he h2 h3 h5 (opE1 hO h6) hr
  refine ⟨_, _, ⟨W.heap.size, cap, 1⟩, k, exv h9, rfl, ?_⟩
  intro φ env n f l al ob mk b hco hO hr hb
  obtain ⟨si', di', e', ei', ex', g0, g1, g2, g3, g4, g5, g6, rfl⟩ := cConvert_al hco
  rw [h0] at g0; cases g0
  rw [h1] at g1; cases g1
  rw [h3] at g3; cases g3
  rw [h4] at g4; cases g4
  exact aCsb_rel h5 h4 h7 h8 (hx ▸ opE1 hO g6) hr hb
theorem al_range (hT : TyOK P c.ty) {t : Nat} {x : Operand} {dst ty' pos af gu} (hO : OpsR S φ c env n f l a [x]) (hco : cRange t x c env n = some (.al al)) (hr : al f l = some (ob', mk)) :
    AlA P S c ⟨dst, .range t x, ty', pos, af, gu⟩ a W := by
  obtain ⟨ti, h0, hco⟩ := ob_eq.1 hco
  obtain ⟨ex, h1, hco⟩ := ob_eq.1 hco
  obtain ⟨i, d, z, ht⟩ := hT _ _ h0
  split at hco
  · rename_i hk
    cases hco
    obtain ⟨s, hx, _⟩ := aRangeS_rel (ty := c.ty) (opE1 hO h1) hr
    refine ⟨_, _, ⟨W.heap.size, 0, 0⟩, W.drawn, exv (by rw [hx]; exact aRangeS_run ht hk), rfl, ?_⟩
    intro φ env n f l al ob mk b hco hO hr hb
    replace hco : cRange t x c env n = some (.al al) := hco
    obtain ⟨ti', h0', hco⟩ := ob_eq.1 hco
    rw [h0] at h0'; cases h0'
    obtain ⟨ex', h1', hco⟩ := ob_eq.1 hco
    rw [hk] at hco; cases hco
    obtain ⟨s', hx', h2⟩ := aRangeS_rel (ty := c.ty) (opE1 hO h1') hr
    rw [hx] at hx'; cases hx'
    exact h2 hb
  · cases hco
  · cases hco
theorem al_sound (hT : TyOK P c.ty) {o : Oper} (hO : OpsR S φ c env n f l a o.op.operands.toList) (hco : cOp c env n o = some (.al al)) (hr : al f l = some (ob', mk)) : AlA P S c o a W := by
  obtain ⟨dst, op, ty', pos, af, gu⟩ := o
  unfold cOp at hco
  cases op <;> simp only [cOpF] at hco
  case alloc e => exact al_alloc hT hco
  case box e x => exact al_box
  case buildSlice t len ps => exact al_buildSlice hT (by simpa [Op.operands] using hO) hco hr
  case makeMap t q => exact al_makeMap hco
  case makeSlice t x y => exact al_makeSlice hT hO hco hr
  case convert s d x => exact al_convert hT hO hco hr
  case range t x => exact al_range hT hO hco hr
  case move x => exact absurd (k_move hco) (by simp [CO.k])
  case assign x => exact absurd (k_move hco) (by simp [CO.k])
  case pick p x y => exact absurd (k_pick hco) (by simp [CO.k])
  case build t ps => exact absurd (k_build hco) (by simp [CO.k])
  case load t x => exact absurd (k_load hco) (by simp [CO.k])
  case store t x y => exact absurd (k_store hco) (by simp [CO.k])
  case nilCheck x => exact absurd (k_nilCheck hco) (by simp [CO.k])
  case binOp op t x y yt => exact absurd (k_binOp hco) (by simp [CO.k])
  case unOp op t x => exact absurd (k_unOp hco) (by simp [CO.k])
  case makeInterface t x => exact absurd (k_makeInterface hco) (by simp [CO.k])
  case makeFunc fn xs ys => exact absurd (k_makeFunc hco) (by simp [CO.k])
  case slice t x lo hi mx => exact absurd (k_slice hco) (by simp [CO.k])
  case fieldAddr t x k => exact absurd (k_fieldAddr hco) (by simp [CO.k])
  case field t x k => exact absurd (k_field hco) (by simp [CO.k])
  case indexAddr t x y => exact absurd (k_indexAddr hco) (by simp [CO.k])
  case index t x y => exact absurd (k_index hco) (by simp [CO.k])
  case lookup t x y ok => exact absurd (k_lookup hco) (by simp [CO.k])
  case mapUpdate t m k x => exact absurd (k_mapUpdate hco) (by simp [CO.k])
  case insert t m k x => exact absurd (k_mapUpdate hco) (by simp [CO.k])
  case next x s => exact absurd (k_next hco) (by cases s <;> simp [CO.k])
  case entry x => exact absurd (k_entry hco) (by simp [CO.k])
  case typeAssert x u t ok => exact absurd (k_typeAssert hco) (by simp [CO.k])
  case extract x i => exact absurd (k_extract hco) (by simp [CO.k])
  case call p => exact absurd (k_call hco) (by simp [CO.k])
  all_goals cases hco
end
end Eng

/- Every operation that turns the heap, or has many outcomes. -/
namespace Eng
open Go

section
variable {P : Program} {S : Sym} {ty : Nat → Option TI} {φ : Mp} {h : H} {W : World} {f : FT} {l : List V} {c : Cx} {env : Env} {n : Nat} {a : Act} {v : V} {h' : H}

theorem EfA.mu {o : Oper} {s : Sem Value} (hs : EfA S ty φ h W v h' (s.run P W)) (e : (execOp a.eval o).run P W = ((do pure (.value (← s)) : Sem Next)).run P W) : MuA P S ty φ h W [(v, h')] o a := by
  intro next Q hn
  obtain ⟨φ', w, W', h1, h2, h3, h4⟩ := hs
  refine wp_value (w := w) (W' := W') ?_ (hn w W' ⟨v, h', φ', by simp, h2, h3, h4⟩)
  rw [e, Sem.run_bind, h1]; rfl
theorem EfA.mu0 {o : Oper} {s : Sem Unit} (hs : EfA S ty φ h W v h' (unitR (s.run P W))) (e : (execOp a.eval o).run P W = ((do s; pure .skip : Sem Next)).run P W) : MuA P S ty φ h W [(v, h')] o a := by
  intro next Q hn
  obtain ⟨φ', w, W', h1, h2, h3, h4⟩ := hs
  unfold Oper.wp
  rw [e, Sem.run_bind]
  cases hr : s.run P W with
  | ok q W1 =>
    rw [hr] at h1
    simp only [unitR, Result.andThen] at h1
    cases h1
    exact hn _ _ ⟨v, h', φ', by simp, h2, h3, h4⟩
  | halt q W1 => rw [hr] at h1; simp [unitR, Result.andThen] at h1
theorem cBuiltin_ef {bi : Builtin} {ts : Array Nat} {args : Array Operand} {e : Ef} (hT : TyOK P c.ty) (r : RH S c.ty φ h W.heap) (hO : OpsR S φ c env n f l a args.toList)
    (hco : cBuiltin c env n bi ts.toList args.toList = some (.ef e)) (hr : e f l h = some (v, h')) (u : Nat) (cs : Array Bool) :
    ∃ s : Sem Value, EfA S c.ty φ h W v h' (s.run P W) ∧ (builtin bi ts u cs (args.map a.eval)).run P W = ((do pure (.value (← s)) : Sem Next)).run P W := by
  unfold cBuiltin at hco
  split at hco
  · obtain ⟨ti, h0, hco⟩ := ob_eq.1 hco
    obtain ⟨e, h1, hco⟩ := ob_eq.1 hco
    split at hco <;> cases hco
  · obtain ⟨ti, h0, hco⟩ := ob_eq.1 hco
    obtain ⟨e, h1, hco⟩ := ob_eq.1 hco
    split at hco
    · obtain ⟨ei, h2, hco⟩ := ob_eq.1 hco
      cases hco
    · cases hco
  · rename_i t u' _ s x e1 e2
    have hts : ts[0]? = some t := by rw [← Array.getElem?_toList, e1]; rfl
    have hts1 : ts[1]? = some u' := by rw [← Array.getElem?_toList, e1]; rfl
    have hx0 := arr_eq e2; subst hx0
    obtain ⟨ti, h0, hco⟩ := ob_eq.1 hco
    obtain ⟨ui, h1, hco⟩ := ob_eq.1 hco
    obtain ⟨ex, h2, hco⟩ := ob_eq.1 hco
    obtain ⟨ey, h3, hco⟩ := ob_eq.1 hco
    obtain ⟨i, d, z, ht⟩ := hT _ _ h0
    obtain ⟨i1, d1, z1, hu⟩ := hT _ _ h1
    refine ⟨Builtin.append_ ts u #[a.eval s, a.eval x], ?_, by rw [show Array.map a.eval [s, x].toArray = #[a.eval s, a.eval x] from by simp]; rfl⟩
    split at hco
    · rename_i e' e'' hk hk'
      obtain ⟨ei, h4, hco⟩ := ob_eq.1 hco
      cases hco
      obtain ⟨i2, d2, z2, he⟩ := hT _ _ h4
      exact fAppend_run ht hu he h4 hk (.inl ⟨_, hk'⟩) hts hts1 r (opE1 hO h2) (opE2 hO h3) hr
    · rename_i e' hk hk'
      obtain ⟨ei, h4, hco⟩ := ob_eq.1 hco
      cases hco
      obtain ⟨i2, d2, z2, he⟩ := hT _ _ h4
      exact fAppend_run ht hu he h4 hk (.inr hk') hts hts1 r (opE1 hO h2) (opE2 hO h3) hr
    · rename_i e' kk hk hk'
      obtain ⟨ei, h4, hco⟩ := ob_eq.1 hco
      rw [fL_eq] at hco
      cases hco
      obtain ⟨i2, d2, z2, he⟩ := hT _ _ h4
      exact fAppendZ_run ht hu he h4 hk hk' hts hts1 r (opE1 hO h2) (opE2 hO h3) hr
    · cases hco
  · rename_i t _ x e1 e2
    have hts : ts[0]? = some t := by rw [← Array.getElem?_toList, e1]; rfl
    have hx0 := arr_eq e2; subst hx0
    obtain ⟨ti, h0, hco⟩ := ob_eq.1 hco
    obtain ⟨ex, h1, hco⟩ := ob_eq.1 hco
    obtain ⟨i, d, z, ht⟩ := hT _ _ h0
    refine ⟨Builtin.clear_ ts u #[a.eval x], ?_, by rw [show Array.map a.eval [x].toArray = #[a.eval x] from by simp]; rfl⟩
    split at hco
    · rename_i k e' hk
      cases hco
      exact fClearM_run ht hk hts r (opE1 hO h1) hr
    · rename_i e' hk
      obtain ⟨ei, h4, hco⟩ := ob_eq.1 hco
      rw [fL_eq] at hco
      cases hco
      obtain ⟨i2, d2, z2, he⟩ := hT _ _ h4
      exact fClearL_run ht he hk hts r (opE1 hO h1) hr
    · cases hco
  · rename_i t _ x y e1 e2
    have hts : ts[0]? = some t := by rw [← Array.getElem?_toList, e1]; rfl
    have hx0 := arr_eq e2; subst hx0
    obtain ⟨ti, h0, hco⟩ := ob_eq.1 hco
    obtain ⟨ex, h1, hco⟩ := ob_eq.1 hco
    obtain ⟨ey, h2, hco⟩ := ob_eq.1 hco
    obtain ⟨i, d, z, ht⟩ := hT _ _ h0
    refine ⟨Builtin.copy_ ts u #[a.eval x, a.eval y], ?_, by rw [show Array.map a.eval [x, y].toArray = #[a.eval x, a.eval y] from by simp]; rfl⟩
    split at hco
    · rename_i e' hk
      obtain ⟨ei, h4, hco⟩ := ob_eq.1 hco
      cases hco
      obtain ⟨i2, d2, z2, he⟩ := hT _ _ h4
      exact fCopy_run ht he hk hts r (opE1 hO h1) (opE2 hO h2) hr
    · cases hco
  · rename_i t _ x y e1 e2
    have hts : ts[0]? = some t := by rw [← Array.getElem?_toList, e1]; rfl
    have hx0 := arr_eq e2; subst hx0
    obtain ⟨ti, h0, hco⟩ := ob_eq.1 hco
    obtain ⟨ex, h1, hco⟩ := ob_eq.1 hco
    obtain ⟨ey, h2, hco⟩ := ob_eq.1 hco
    obtain ⟨i, d, z, ht⟩ := hT _ _ h0
    refine ⟨Builtin.delete_ ts u #[a.eval x, a.eval y], ?_, by rw [show Array.map a.eval [x, y].toArray = #[a.eval x, a.eval y] from by simp]; rfl⟩
    split at hco
    · rename_i kt e' hk
      obtain ⟨ki, h4, hco⟩ := ob_eq.1 hco
      obtain ⟨kk, h5, hco⟩ := ob_eq.1 hco
      cases hco
      obtain ⟨i2, d2, z2, he⟩ := hT _ _ h4
      exact fDelete_run ht he hk h5 hts r (opE1 hO h1) (opE2 hO h2) hr
    · cases hco
  · obtain ⟨e, h1, hco⟩ := ob_eq.1 hco
    obtain ⟨es, h2, hco⟩ := ob_eq.1 hco
    cases hco
  · obtain ⟨e, h1, hco⟩ := ob_eq.1 hco
    obtain ⟨es, h2, hco⟩ := ob_eq.1 hco
    cases hco
  · rename_i t _ x y e1 e2
    have hts : ts[0]? = some t := by rw [← Array.getElem?_toList, e1]; rfl
    have hx0 := arr_eq e2; subst hx0
    obtain ⟨ti, h0, hco⟩ := ob_eq.1 hco
    obtain ⟨ex, h1, hco⟩ := ob_eq.1 hco
    obtain ⟨ey, h2, hco⟩ := ob_eq.1 hco
    obtain ⟨i, d, z, ht⟩ := hT _ _ h0
    refine ⟨Builtin.unsafeString_ ts u #[a.eval x, a.eval y], ?_, by rw [show Array.map a.eval [x, y].toArray = #[a.eval x, a.eval y] from by simp]; rfl⟩
    split at hco
    · rename_i e' hk
      obtain ⟨ei, h4, hco⟩ := ob_eq.1 hco
      obtain ⟨h5, hco⟩ := gd_eq.1 hco
      rw [natBeq_eq] at h5
      cases hco
      obtain ⟨i2, d2, z2, he⟩ := hT _ _ h4
      exact fUString_run ht he hk h5 hts r (opE1 hO h1) (opE2 hO h2) hr
    · cases hco
  · obtain ⟨e, h1, hco⟩ := ob_eq.1 hco
    cases hco
  · cases hco

theorem ef_sound {o : Oper} {e : Ef} (hT : TyOK P c.ty) (r : RH S c.ty φ h W.heap) (hO : OpsR S φ c env n f l a o.op.operands.toList) (hco : cOp c env n o = some (.ef e)) (hr : e f l h = some (v, h')) :
    MuA P S c.ty φ h W [(v, h')] o a := by
  obtain ⟨dst, op, ty', pos, af, gu⟩ := o
  unfold cOp at hco
  cases op <;> simp only [cOpF] at hco
  case move x => exact absurd (k_move hco) (by simp [CO.k])
  case assign x => exact absurd (k_move hco) (by simp [CO.k])
  case pick p x y => exact absurd (k_pick hco) (by simp [CO.k])
  case alloc e => exact absurd (k_alloc hco) (by simp [CO.k])
  case box e x => exact absurd (k_box hco) (by simp [CO.k])
  case build t ps => exact absurd (k_build hco) (by simp [CO.k])
  case buildSlice t len ps => exact absurd (k_buildSlice hco) (by simp [CO.k])
  case load t x => exact absurd (k_load hco) (by simp [CO.k])
  case store t x y =>
    obtain ⟨ti, h0, hco⟩ := ob_eq.1 hco
    obtain ⟨ex, h1, hco⟩ := ob_eq.1 hco
    obtain ⟨ey, h2, hco⟩ := ob_eq.1 hco
    obtain ⟨i, d, z, ht⟩ := hT _ _ h0
    rcases bc_eq.1 hco with ⟨_, hco⟩ | ⟨_, hco⟩
    · obtain ⟨h3, hco⟩ := gd_eq.1 hco
      rw [natBeq_eq] at h3
      cases hco
      exact (fStore1_run ht h3 r (opE1 hO h1) (opE2 hO h2) hr).mu0 rfl
    · cases hco
      exact (fStoreN_run ht r (opE1 hO h1) (opE2 hO h2) hr).mu0 rfl
  case nilCheck x => exact absurd (k_nilCheck hco) (by simp [CO.k])
  case binOp op t x y yt => exact absurd (k_binOp hco) (by simp [CO.k])
  case unOp op t x => exact absurd (k_unOp hco) (by simp [CO.k])
  case convert s d x => exact absurd (k_convert hco) (by simp [CO.k])
  case makeInterface t x => exact absurd (k_makeInterface hco) (by simp [CO.k])
  case makeFunc fn xs ys => exact absurd (k_makeFunc hco) (by simp [CO.k])
  case makeMap t q => exact absurd (k_makeMap hco) (by simp [CO.k])
  case makeSlice t x y => exact absurd (k_makeSlice hco) (by simp [CO.k])
  case slice t x lo hi mx => exact absurd (k_slice hco) (by simp [CO.k])
  case fieldAddr t x k => exact absurd (k_fieldAddr hco) (by simp [CO.k])
  case field t x k => exact absurd (k_field hco) (by simp [CO.k])
  case indexAddr t x y => exact absurd (k_indexAddr hco) (by simp [CO.k])
  case index t x y => exact absurd (k_index hco) (by simp [CO.k])
  case lookup t x y ok => exact absurd (k_lookup hco) (by simp [CO.k])
  case mapUpdate t m k x =>
    obtain ⟨ti, h0, hco⟩ := ob_eq.1 hco
    obtain ⟨ex, h1, hco⟩ := ob_eq.1 hco
    obtain ⟨ey, h2, hco⟩ := ob_eq.1 hco
    obtain ⟨ez, h3, hco⟩ := ob_eq.1 hco
    obtain ⟨i, d, z, ht⟩ := hT _ _ h0
    split at hco
    · rename_i kt e' hk
      obtain ⟨ki, h4, hco⟩ := ob_eq.1 hco
      obtain ⟨kk, h5, hco⟩ := ob_eq.1 hco
      cases hco
      obtain ⟨i2, d2, z2, he⟩ := hT _ _ h4
      exact (fMupd_run ht he hk h5 r (opE1 hO h1) (opE2 hO h2) (opE3 hO h3) hr).mu0 rfl
    · cases hco
  case insert t m k x =>
    obtain ⟨ti, h0, hco⟩ := ob_eq.1 hco
    obtain ⟨ex, h1, hco⟩ := ob_eq.1 hco
    obtain ⟨ey, h2, hco⟩ := ob_eq.1 hco
    obtain ⟨ez, h3, hco⟩ := ob_eq.1 hco
    obtain ⟨i, d, z, ht⟩ := hT _ _ h0
    split at hco
    · rename_i kt e' hk
      obtain ⟨ki, h4, hco⟩ := ob_eq.1 hco
      obtain ⟨kk, h5, hco⟩ := ob_eq.1 hco
      cases hco
      obtain ⟨i2, d2, z2, he⟩ := hT _ _ h4
      exact (fMupd_run ht he hk h5 r (opE1 hO h1) (opE2 hO h2) (opE3 hO h3) hr).mu0 rfl
    · cases hco
  case range t x =>
    obtain ⟨ti, h0, hco⟩ := ob_eq.1 hco
    obtain ⟨ex, h1, hco⟩ := ob_eq.1 hco
    obtain ⟨i, d, z, ht⟩ := hT _ _ h0
    split at hco
    · cases hco
    · rename_i kt e' hk
      cases hco
      exact (fRangeM_run ht hk r (opE1 hO h1) hr).mu rfl
    · cases hco
  case next x s =>
    obtain ⟨ex, h1, hco⟩ := ob_eq.1 hco
    rcases bc_eq.1 hco with ⟨_, hco⟩ | ⟨hs, hco⟩
    · cases hco
    · subst hs
      cases hco
      exact (fNextS_run (t := ty') r (opE1 hO h1) hr).mu rfl
  case entry x => exact absurd (k_entry hco) (by simp [CO.k])
  case typeAssert x u t ok => exact absurd (k_typeAssert hco) (by simp [CO.k])
  case extract x i => exact absurd (k_extract hco) (by simp [CO.k])
  case call p =>
    obtain ⟨cal, args, ts⟩ := p
    cases cal with
    | builtin bi =>
      obtain ⟨s, h1, h2⟩ := cBuiltin_ef hT r (by simpa [Op.operands, Call.operands] using hO) hco hr ty' (args.map fun | .const _ => true | _ => false)
      exact h1.mu h2
    | invoke x name =>
      obtain ⟨e, _, hco⟩ := ob_eq.1 hco
      obtain ⟨e', _, hco⟩ := ob_eq.1 hco
      cases hco
    | value x =>
      cases x with
      | func g =>
        obtain ⟨e, _, hco⟩ := ob_eq.1 hco
        cases hco
      | _ =>
        obtain ⟨e, _, hco⟩ := ob_eq.1 hco
        obtain ⟨e', _, hco⟩ := ob_eq.1 hco
        cases hco
  all_goals cases hco

theorem mu_sound {o : Oper} {m : Mu} {K : Eng.K} {outs : List (V × H)} {ng : Nat} (hK : KOK P S c.ty ng K) (hG : GOK ng φ) (hM : MsOK P c.ms) (r : RH S c.ty φ h W.heap) (hO : OpsR S φ c env n f l a o.op.operands.toList)
    (hco : cOp c env n o = some (.mu m)) (hr : m K f l h = some outs) : MuA P S c.ty φ h W outs o a := by
  obtain ⟨dst, op, ty', pos, af, gu⟩ := o
  unfold cOp at hco
  cases op <;> simp only [cOpF] at hco
  case move x => exact absurd (k_move hco) (by simp [CO.k])
  case assign x => exact absurd (k_move hco) (by simp [CO.k])
  case pick p x y => exact absurd (k_pick hco) (by simp [CO.k])
  case alloc e => exact absurd (k_alloc hco) (by simp [CO.k])
  case box e x => exact absurd (k_box hco) (by simp [CO.k])
  case build t ps => exact absurd (k_build hco) (by simp [CO.k])
  case buildSlice t len ps => exact absurd (k_buildSlice hco) (by simp [CO.k])
  case load t x => exact absurd (k_load hco) (by simp [CO.k])
  case store t x y => exact absurd (k_store hco) (by simp [CO.k])
  case nilCheck x => exact absurd (k_nilCheck hco) (by simp [CO.k])
  case binOp op t x y yt => exact absurd (k_binOp hco) (by simp [CO.k])
  case unOp op t x => exact absurd (k_unOp hco) (by simp [CO.k])
  case convert s d x => exact absurd (k_convert hco) (by simp [CO.k])
  case makeInterface t x => exact absurd (k_makeInterface hco) (by simp [CO.k])
  case makeFunc fn xs ys => exact absurd (k_makeFunc hco) (by simp [CO.k])
  case makeMap t q => exact absurd (k_makeMap hco) (by simp [CO.k])
  case makeSlice t x y => exact absurd (k_makeSlice hco) (by simp [CO.k])
  case slice t x lo hi mx => exact absurd (k_slice hco) (by simp [CO.k])
  case fieldAddr t x k => exact absurd (k_fieldAddr hco) (by simp [CO.k])
  case field t x k => exact absurd (k_field hco) (by simp [CO.k])
  case indexAddr t x y => exact absurd (k_indexAddr hco) (by simp [CO.k])
  case index t x y => exact absurd (k_index hco) (by simp [CO.k])
  case lookup t x y ok => exact absurd (k_lookup hco) (by simp [CO.k])
  case mapUpdate t m k x => exact absurd (k_mapUpdate hco) (by simp [CO.k])
  case insert t m k x => exact absurd (k_mapUpdate hco) (by simp [CO.k])
  case range t x => exact absurd (k_range hco) (by simp [CO.k])
  case next x s =>
    obtain ⟨ex, h1, hco⟩ := ob_eq.1 hco
    rcases bc_eq.1 hco with ⟨hs, hco⟩ | ⟨hs, hco⟩
    · subst hs
      cases hco
      exact mNextM_run rfl (opE1 hO h1) r hr
    · cases hco
  case entry x => exact absurd (k_entry hco) (by simp [CO.k])
  case typeAssert x u t ok => exact absurd (k_typeAssert hco) (by simp [CO.k])
  case extract x i => exact absurd (k_extract hco) (by simp [CO.k])
  case call p =>
    obtain ⟨cal, args, ts⟩ := p
    cases cal with
    | builtin bi => exact absurd (k_builtin hco) (by simp [CO.k])
    | invoke x name =>
      obtain ⟨ex, h1, hco⟩ := ob_eq.1 hco
      obtain ⟨es, h2, hco⟩ := ob_eq.1 hco
      cases hco
      have hO' : OpsR S φ c env n f l a (x :: args.toList) := by simpa [Op.operands, Call.operands] using hO
      exact mInvoke_run hK hG hM rfl rfl (opE1 hO' h1) (OpsR.evs (hO'.mono fun y hy => List.mem_cons_of_mem _ hy) h2) r hr
    | value x =>
      have hO' : OpsR S φ c env n f l a (x :: args.toList) := by simpa [Op.operands, Call.operands] using hO
      cases x with
      | func g =>
        obtain ⟨es, h2, hco⟩ := ob_eq.1 hco
        cases hco
        exact mCall_run hK hG rfl rfl (OpsR.evs (hO'.mono fun y hy => List.mem_cons_of_mem _ hy) h2) r hr
      | _ =>
        obtain ⟨ex, h1, hco⟩ := ob_eq.1 hco
        obtain ⟨es, h2, hco⟩ := ob_eq.1 hco
        cases hco
        exact mCallV_run hK hG rfl rfl (opE1 hO' h1) (OpsR.evs (hO'.mono fun y hy => List.mem_cons_of_mem _ hy) h2) r hr
  all_goals cases hco
end
end Eng
