/- AM, 7: slicing, bytes to a string, a map's look, a struct built, structs compared. -/
import Derived.Test.YtcpkdbofohkipaaKAmSound4
set_option linter.unusedVariables false
set_option linter.unusedSimpArgs false
set_option linter.unusedSimpArgs false
set_option linter.unusedVariables false
namespace Go.AM
variable {P : Program} {N : Nat} {E : Env} {tm : Tm} {a : Act}

/-! ### Slicing -/

/-- A bound as the model has it. -/
def BoundRel (v : Option Value) (l : Option Nat) : Prop :=
  match v, l with
  | none, none => True
  | some v, some n => ∃ k, v = .int k (n : Int)
  | _, _ => False

theorem bound_rel {x : Option Operand} {ax : Option AX} (h : cOptO N x = some ax) (ht : TmRel E N tm a) {l : Option Nat} (hb : bound tm ax = some l) : BoundRel (x.map a.eval) l := by
  cases x with
  | none => simp [cOptO] at h; subst h; simp [bound] at hb; subst hb; trivial
  | some x =>
    cases hx : cOpd N x with
    | none => simp [cOptO, hx] at h
    | some y =>
      simp [cOptO, hx] at h
      subst h
      have hv := opd hx ht
      simp only [bound] at hb
      generalize y.ev tm = u at *
      split at hb
      · rename_i k n
        split at hb
        · rename_i h0
          cases hb
          have e := hv.int_inv
          exact ⟨k, by simp [e, Int.toNat_of_nonneg h0]⟩
        · cases hb
      · cases hb

theorem run_sliceBounds (w : World) (isS : Bool) (len cap : Nat) {lo hi : Option Value} {l u : Option Nat} (hl : BoundRel lo l) (hu : BoundRel hi u) (h1 : l.getD 0 ≤ u.getD len) (h2 : u.getD len ≤ cap) :
    (Instr.sliceBounds isS len cap lo hi none).run P w = .ok (l.getD 0, u.getD len, cap) w := by
  cases lo <;> cases l <;> simp [BoundRel] at hl <;> cases hi <;> cases u <;> simp [BoundRel] at hu <;> simp at h1 h2
  · simp [Instr.sliceBounds]
  · obtain ⟨k, rfl⟩ := hu
    simp [Instr.sliceBounds, Instr.sliceBound, asIntOf, h2]
  · obtain ⟨k, rfl⟩ := hl
    simp [Instr.sliceBounds, Instr.sliceBound, asIntOf, h1]
  · obtain ⟨k, rfl⟩ := hl
    obtain ⟨k', rfl⟩ := hu
    simp [Instr.sliceBounds, Instr.sliceBound, asIntOf, h1, h2]

theorem run_cut (w : World) {t e : TypeId} (hu : P.underlying t = some (.slice e)) {i : TypeInfo} (hi : P.info? e = some i) (b : Option Addr) (len cap : Nat) {lo hi' : Option Value} {l u : Option Nat} (hl : BoundRel lo l) (hh : BoundRel hi' u)
    (h1 : l.getD 0 ≤ u.getD len) (h2 : u.getD len ≤ cap) :
    (Instr.sliceAt t (.slice b len cap) lo hi' none).run P w = .ok (.slice (if cap = l.getD 0 then b else b.map (·.add (l.getD 0 * i.size))) (u.getD len - l.getD 0) (cap - l.getD 0)) w := by
  simp [Instr.sliceAt, run_underlying hu, Instr.slice, run_sliceBounds (P := P) w true len cap hl hh h1 h2, info_of hi]

theorem yields_cut (hs : Sim E) {o : Oper} {t e0 : TypeId} {x : Operand} {lo hi : Option Operand} (ho : o.op = .slice t x lo hi none) (hu : P.underlying t = some (.slice e0)) {inf : TypeInfo} (hinf : P.info? e0 = some inf) {ax : AX} {alo ahi : Option AX} (hx : cOpd N x = some ax)
    (hlo : cOptO N lo = some alo) (hhi : cOptO N hi = some ahi) (ht : TmRel E N tm a) {r : AV} (h : apure (.cut inf.size ax alo ahi) tm E.h = some r) : Yields P E a o r := by
  have hvx := opd hx ht
  simp only [apure] at h
  split at h
  · rename_i l u hbl hbu
    have rl := bound_rel hlo ht hbl
    have ru := bound_rel hhi ht hbu
    generalize ax.ev tm = q at *
    have fin : ∀ b len cap, a.eval x = .slice b len cap → l.getD 0 ≤ u.getD len → u.getD len ≤ cap →
        Rel E r (.slice (if cap = l.getD 0 then b else b.map (·.add (l.getD 0 * inf.size))) (u.getD len - l.getD 0) (cap - l.getD 0)) → Yields P E a o r := fun b len cap h1 h2 h3 h4 =>
      ⟨_, by simp [execOp, ho, h1, run_cut (P := P) E.w hu hinf b len cap rl ru h2 h3], h4⟩
    split at h
    · obtain ⟨b, e1⟩ := hvx.nl_inv
      split at h
      · rename_i h0
        split at h
        · rename_i h1
          cases h
          refine fin b 0 0 e1 (by omega) (by omega) ?_
          rw [h0, h1]
          exact .nl _
        · cases h
      · cases h
    · rename_i xs
      obtain ⟨b, cap, blk, o', sz, us, e1, hb, hcap, hsz, h1, hc, hr⟩ := hvx.fz_inv
      split at h
      · rename_i h2
        split at h
        · rename_i h3
          split at h
          · rename_i hall
            cases h
            have hall' : ∀ y ∈ xs, y.length = inf.size := by simpa using hall
            refine fin b _ cap e1 h2 (by omega) ?_
            have hln : ((xs.drop (l.getD 0)).take (u.getD xs.length - l.getD 0)).length = u.getD xs.length - l.getD 0 := by simp; omega
            have hmem : ∀ y ∈ (xs.drop (l.getD 0)).take (u.getD xs.length - l.getD 0), y ∈ xs := fun y hy => List.mem_of_mem_drop (List.mem_of_mem_take hy)
            have hget : ∀ i y, ((xs.drop (l.getD 0)).take (u.getD xs.length - l.getD 0))[i]? = some y → xs[l.getD 0 + i]? = some y := fun i y hy => by
              rw [List.getElem?_take] at hy
              split at hy
              · rwa [List.getElem?_drop] at hy
              · cases hy
            have := Rel.fz (E := E) ((xs.drop (l.getD 0)).take (u.getD xs.length - l.getD 0)) (if cap = l.getD 0 then b else b.map (·.add (l.getD 0 * inf.size))) (cap - l.getD 0) blk (o' + l.getD 0 * inf.size) sz (fun i j => us (l.getD 0 + i) j)
              (fun hne => by
                have hx0 : xs ≠ [] := by intro h0; subst h0; simp at hne
                obtain ⟨hb1, hb2, hb3⟩ := hb hx0
                have hpos : 0 < ((xs.drop (l.getD 0)).take (u.getD xs.length - l.getD 0)).length := List.length_pos_iff.2 hne
                refine ⟨?_, hb2, hb3⟩
                rw [if_neg (by omega), hb1]
                simp [Addr.add_mid])
              (by omega) (fun y hy => hsz y (hmem y hy)) (fun y hy => h1 y (hmem y hy))
              (fun i y j c hy hj => by
                have hyx := hget i y hy
                have := hc _ y j c hyx hj
                have hszz : sz = inf.size := by rw [← hsz y (hmem y (List.mem_of_getElem? hy)), hall' y (hmem y (List.mem_of_getElem? hy))]
                rw [hszz] at this ⊢
                rw [← this]
                congr 2
                rw [Nat.add_mul]; omega)
              (fun i y j c hy hj => hr _ y j c (hget i y hy) hj)
            rw [hln] at this
            exact this
          · cases h
        · cases h
      · cases h
    · rename_i id off len
      obtain ⟨b, cap, e1, hn, hp⟩ := hvx.sl_inv
      split at h
      · rename_i e sz' xs hh
        obtain ⟨h1, h2, h3⟩ := hp e sz' xs hh
        split at h
        · rename_i hsz
          split at h
          · rename_i h4
            split at h
            · rename_i h5
              cases h
              obtain ⟨_, _, _, hxk, _⟩ := arr_row hs hh
              refine fin b len cap e1 h4 (by omega) (.sl _ _ _ _ _ hn fun e' sz'' xs' hh' => ?_)
              rw [hh] at hh'
              cases hh'
              refine ⟨by omega, by omega, ?_⟩
              by_cases hcl : cap = l.getD 0
              · rw [if_pos hcl]
                by_cases h0 : off + l.getD 0 = 0
                · right
                  rcases h3 with ⟨h6, _⟩ | h6
                  · omega
                  · rw [h6, h0]
                    have : off = 0 := by omega
                    rw [this]
                · left; exact ⟨h0, by omega⟩
              · rw [if_neg hcl]
                right
                rcases h3 with ⟨_, h6⟩ | h6
                · omega
                · rw [h6]
                  simp [Addr.add_mid, hsz, Nat.add_mul]
            · cases h
          · cases h
        · cases h
      · cases h
    · cases h
  · cases h

theorem extract_mk (s : List UInt8) (l h : Nat) (hl : l ≤ h) (hh : h ≤ s.length) : (ByteArray.mk s.toArray).extract l h = ByteArray.mk ((s.drop l).take (h - l)).toArray := by
  apply ByteArray.ext
  simp only [ByteArray.data_extract]
  apply Array.ext'
  simp

theorem yields_cuts {o : Oper} {t : TypeId} {x : Operand} {lo hi : Option Operand} (ho : o.op = .slice t x lo hi none) (hu : P.underlying t = some .string) {ax : AX} {alo ahi : Option AX} (hx : cOpd N x = some ax)
    (hlo : cOptO N lo = some alo) (hhi : cOptO N hi = some ahi) (ht : TmRel E N tm a) {r : AV} (h : apure (.cuts ax alo ahi) tm E.h = some r) : Yields P E a o r := by
  have hvx := opd hx ht
  simp only [apure] at h
  split at h
  · rename_i l u hbl hbu
    have rl := bound_rel hlo ht hbl
    have ru := bound_rel hhi ht hbu
    generalize ax.ev tm = q at *
    split at h
    · rename_i s
      have e1 := hvx.str_inv
      split at h
      · rename_i h1
        split at h
        · rename_i h2
          cases h
          refine ⟨_, ?_, .str _⟩
          simp [execOp, ho, e1, Instr.sliceAt, run_underlying hu, Instr.slice, size_mk, run_sliceBounds (P := P) E.w false s.length s.length rl ru h1 h2, extract_mk s _ _ h1 h2]
        · cases h
      · cases h
    · cases h
  · cases h

/-! ### Bytes to a string -/

theorem yields_b2s (hs : Sim E) {o : Oper} {s d e : TypeId} {x : Operand} (ho : o.op = .convert s d x) (hsu : P.underlying s = some (.slice e)) (he : isU8 P e = true) (hd : P.underlying d = some .string) {ax : AX} (hx : cOpd N x = some ax) (ht : TmRel E N tm a) {r : AV}
    (h : apure (.b2s ax) tm E.h = some r) : Yields P E a o r := by
  have hv := opd hx ht
  simp only [apure] at h
  generalize ax.ev tm = u at *
  have he' : P.underlying e = some (.int .u8) := by
    unfold isU8 at he
    split at he
    · assumption
    · cases he
  split at h
  · rename_i ys hys
    cases hm : ys.mapM byteOf with
    | none => simp [hm] at h
    | some bs =>
      simp [hm] at h
      subst h
      obtain ⟨hbl, hbs⟩ := mapM_some _ _ _ hm
      obtain ⟨b, cap, us, e1, hul, hy1, hy2, hcell, hbase⟩ := elems_cells hs hys hv
      -- each cell is its byte
      have hus : ∀ j, j < ys.length → ∃ n : Int, us[j]? = some (.int .u8 n) ∧ bs[j]? = some (UInt8.ofNat n.toNat) := by
        intro j hj
        have hyj : ys[j]? = some ys[j] := List.getElem?_eq_getElem hj
        have hbj : bs[j]? = some (bs[j]'(by omega)) := List.getElem?_eq_getElem (by omega)
        have hbyte := hbs j _ _ hyj hbj
        unfold byteOf at hbyte
        split at hbyte
        · rename_i n hyn
          obtain ⟨u, hu, hr⟩ := hcell j ys[j] 0 (.int .u8 n) hyj (by rw [hyn]; rfl)
          simp at hu
          have := hr.int_inv
          subst this
          exact ⟨n, hu, by rw [hbj]; exact hbyte.symm⟩
        · cases hbyte
      let ns : List Int := us.map fun u => match u with | .int _ n => n | _ => 0
      have hns : ns.length = ys.length := by simp [ns, hul]
      have hnsj : ∀ j, j < ys.length → us[j]? = some (.int .u8 (ns.getD j 0)) ∧ bs[j]? = some (UInt8.ofNat (ns.getD j 0).toNat) := by
        intro j hj
        obtain ⟨n, h1, h2⟩ := hus j hj
        have : ns.getD j 0 = n := by simp [ns, List.getD, h1]
        rw [this]; exact ⟨h1, h2⟩
      have hdata : strOfNums ns = ⟨bs.toArray⟩ := by
        apply ByteArray.ext
        apply Array.ext'
        rw [strOfNums_data]
        simp only
        apply List.ext_getElem?
        intro j
        by_cases hj : j < ys.length
        · rw [(hnsj j hj).2, List.getElem?_map]
          have : ns[j]? = some (ns.getD j 0) := by simp [List.getD, List.getElem?_eq_getElem (show j < ns.length by omega)]
          rw [this]; rfl
        · rw [List.getElem?_eq_none (by simp; omega), List.getElem?_eq_none (by omega)]
      by_cases hy0 : ys = []
      · subst hy0
        have hb0 : bs = [] := by simpa using hbl
        subst hb0
        refine ⟨.string ByteArray.empty, ?_, Rel.str []⟩
        simp only [execOp, ho]
        rw [e1]
        have := run_convert_bytes_string (P := P) E.w s d e b 0 cap hsu he' hd
        cases b with
        | none => simp [this, Conv.bytesToString]
        | some ad => simp [this, Conv.bytesToString, loadCells, loadCellsFrom]
      · have hune : us ≠ [] := by
          intro h0; subst h0
          simp at hul
          exact hy0 (List.eq_nil_of_length_eq_zero (by omega))
        obtain ⟨g, off, hb, hcells⟩ := hbase hune
        subst hb
        refine ⟨.string ⟨bs.toArray⟩, ?_, Rel.str bs⟩
        have := run_convert_bytes_arg (P := P) E.w s e hsu he' g off ys.length cap ns hns (fun i hi => hcells i _ (hnsj i hi).1) d hd
        simp only [execOp, ho]
        rw [e1]
        simp [this, hdata]
  · cases h

end Go.AM
