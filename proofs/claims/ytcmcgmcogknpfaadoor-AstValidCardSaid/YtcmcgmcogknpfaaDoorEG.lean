/- The operations on memory, third part: new boxes, addresses, parts. -/
import Derived.Test.YtcmcgmcogknpfaaDoorEF
set_option linter.unusedVariables false
set_option linter.unusedSimpArgs false
namespace Go.Ab
open Go

variable {P : Program}

mutual
theorem ofV_rep (V : Vw) : ∀ (v : Value) (x : AV), ofV v = some x → Rep V x v
  | .bool b, x, h => by simp [ofV] at h; subst h; exact .bool b
  | .int k n, x, h => by simp [ofV] at h; subst h; exact .int k n
  | .string s, x, h => by simp [ofV] at h; subst h; exact .str s
  | .pointer none, x, h => by simp [ofV] at h; subst h; exact .nilptr
  | .pointer (some a), x, h => by simp [ofV] at h
  | .slice none 0 0, x, h => by simp [ofV] at h; subst h; exact .seqNil true 0
  | .slice none 0 (_ + 1), x, h => by simp [ofV] at h
  | .slice none (_ + 1) _, x, h => by simp [ofV] at h
  | .slice (some _) _ _, x, h => by simp [ofV] at h
  | .nilFunc, x, h => by simp [ofV] at h; subst h; exact .nilfn
  | .agg ⟨cs⟩, x, h => by
    simp only [ofV] at h
    cases hc : ofVs cs with
    | none => simp [hc] at h
    | some xs =>
      simp only [hc] at h
      split at h
      · rename_i hl
        cases h
        have := ofVs_reps V cs xs hc
        exact .agg xs ⟨cs⟩ this.1 (by simpa using hl) (fun j x c hx hcx => this.2 j x c hx (by simpa using hcx))
      · cases h
  | .tuple ⟨cs⟩, x, h => by
    simp only [ofV] at h
    cases hc : ofVs cs with
    | none => simp [hc] at h
    | some xs =>
      simp [hc] at h
      subst h
      have := ofVs_reps V cs xs hc
      exact .tup xs ⟨cs⟩ this.1 (fun j x c hx hcx => this.2 j x c hx (by simpa using hcx))
  | .float _ _, x, h => by simp [ofV] at h
  | .complex _ _ _, x, h => by simp [ofV] at h
  | .map none, x, h => by simp [ofV] at h; subst h; exact .nilmp
  | .map (some _), x, h => by simp [ofV] at h
  | .chan _, x, h => by simp [ofV] at h
  | .func _ _ _, x, h => by simp [ofV] at h
  | .iface _ _, x, h => by simp [ofV] at h
  | .nilIface, x, h => by simp [ofV] at h
theorem ofVs_reps (V : Vw) : ∀ (vs : List Value) (xs : List AV), ofVs vs = some xs → Reps V xs vs
  | [], xs, h => by simp [ofVs] at h; subst h; exact Reps.nil V
  | v :: vs, xs, h => by
    simp only [ofVs] at h
    cases h1 : ofV v with
    | none => simp [h1] at h
    | some x =>
      cases h2 : ofVs vs with
      | none => simp [h1, h2] at h
      | some ys =>
        simp [h1, h2] at h
        subst h
        exact Reps.cons (ofV_rep V v x h1) (ofVs_reps V vs ys h2)
end

theorem zero_rep {t : Nat} {z : AV} (h : zeroT P t = some z) : ∃ (i : TypeInfo) (v : Value), P.info? t = some i ∧ i.zero = some v ∧ ofV v = some z ∧ ∀ V, Rep V z v := by
  unfold zeroT at h
  obtain ⟨v, h1, h2⟩ := Option.bind_eq_some_iff.1 h
  obtain ⟨i, h3, h4⟩ := Option.bind_eq_some_iff.1 h1
  exact ⟨i, v, h3, h4, h2, fun V => ofV_rep V v z h2⟩

theorem box_ok {V : Vw} (o : Ok V) {t : Nat} {x : AV} {v : Value} (hv : Rep V x v) (hd : x.data = true) :
    ∃ V', (newVar t v).run P V.w = .ok ⟨V.w.heap.size, 0, none⟩ V'.w ∧ V'.mem = V.mem ++ [.box x.cells] ∧ Ok V' ∧ Ext V V' ∧ Rep V' (.ptr V.mem.length x.cells.length 0) (.pointer (some ⟨V.w.heap.size, 0, none⟩)) := by
  obtain ⟨hr, hl, h1⟩ := hv.cells (not_tup hd)
  have e := ext_new o (.box x.cells) (.cells v.cells t) 0
  refine ⟨V.new (.box x.cells) (.cells v.cells t) 0, rfl, rfl, ok_new o _ _ _ ⟨v.cells, t, new_heap V _ _ _, hr.mono e, hl⟩, e, ?_⟩
  exact .ptr _ _ _ _ rfl (new_hd V _ _ _ rfl) (fun _ => ⟨_, new_rs V _ _ _, rfl⟩)

theorem alloc_ok {V : Vw} (o : Ok V) {t : Nat} {z : AV} (hz : zeroT P t = some z) (hd : z.data = true) :
    ∃ V', (Instr.alloc t true (.tuple #[])).run P V.w = .ok (.pointer (some ⟨V.w.heap.size, 0, none⟩)) V'.w ∧ V'.mem = V.mem ++ [.box z.cells] ∧ Ok V' ∧ Ext V V' ∧
      Rep V' (.ptr V.mem.length z.cells.length 0) (.pointer (some ⟨V.w.heap.size, 0, none⟩)) := by
  obtain ⟨i, v, h1, h2, h3, h4⟩ := zero_rep hz
  obtain ⟨V', hr, r⟩ := box_ok (P := P) (t := t) o (h4 V) hd
  refine ⟨V', ?_, r⟩
  have hzr : (zeroValue t).run P V.w = .ok v V.w := by simp [zeroValue, run_tinfo h1, h2]
  simp only [Instr.alloc, Sem.run_bind, hzr, Result.andThen_ok, hr, Sem.run_pure]

theorem ptr_valid {V : Vw} {id ver off : Nat} {v : Value} (h : Rep V (.ptr id ver off) v) (hv : verOf V.mem id = some ver) : ∃ b, V.rs id = some b ∧ v = .pointer (some ⟨b, off, none⟩) := by
  cases h with | ptr _ _ _ _ _ _ h => exact h hv
theorem aptr_valid {V : Vw} {id ver sz i f : Nat} {v : Value} (h : Rep V (.aptr id ver sz i f) v) (hv : verOf V.mem id = some ver) : ∃ b, V.rs id = some b ∧ v = .pointer (some ⟨b, i * sz + f, none⟩) := by
  cases h with | aptr _ _ _ _ _ _ _ _ h => exact h hv
theorem own_valid {V : Vw} {id ver : Nat} {v : Value} (h : Rep V (.own id ver) v) (hv : verOf V.mem id = some ver) : ∃ b, V.rs id = some b ∧ v = .slice (some ⟨b, 0, none⟩) ver (V.cp id) := by
  cases h with | own _ _ _ _ _ h => exact h hv
theorem ptr_hd {V : Vw} {id ver off : Nat} {v : Value} (h : Rep V (.ptr id ver off) v) : V.hd id ver := by cases h with | ptr _ _ _ _ _ h _ => exact h
theorem aptr_hd {V : Vw} {id ver sz i f : Nat} {v : Value} (h : Rep V (.aptr id ver sz i f) v) : V.hd id ver := by cases h with | aptr _ _ _ _ _ _ _ h _ => exact h
theorem own_hd {V : Vw} {id ver : Nat} {v : Value} (h : Rep V (.own id ver) v) : V.hd id ver := by cases h with | own _ _ _ _ h _ => exact h

theorem rptr_drop {V : Vw} {cs : List AV} {v : Value} (h : Rep V (.rptr cs) v) {n : Nat} (hn : n < cs.length) : ∃ ad, v = .pointer (some ad) ∧ Rep V (.rptr (cs.drop n)) (.pointer (some (ad.add n))) := by
  cases h with
  | rptr xs ad us h0 hl hS hu hr =>
    refine ⟨ad, rfl, .rptr _ _ (fun m => us (n + m)) (fun e => ?_) (fun x hx => hl x (List.mem_of_mem_drop hx)) (by rw [add_block]; exact hS) (fun m y hm => ?_) (fun m y hm => ?_)⟩
    · have := congrArg List.length e; simp at this; omega
    · rw [List.getElem?_drop] at hm; rw [add_add]; exact hu _ y hm
    · rw [List.getElem?_drop] at hm; exact hr _ y hm

theorem fieldAddr_ok {V : Vw} {s j : Nat} {x r : AV} {v : Value} (hv : Rep V x v) (h : fieldAddrA P V.mem s j x = some r) :
    ∃ u, (Instr.fieldAt s v j).run P V.w = .ok u V.w ∧ Rep V r u := by
  unfold fieldAddrA at h
  cases hf : fldT P s j with
  | none => simp [hf] at h
  | some p =>
    obtain ⟨ft, off⟩ := p
    simp only [hf] at h
    split at h
    case isFalse => cases h
    rename_i hz
    obtain ⟨n, hn, hpos⟩ := (Option.any_eq_true _ _).1 hz
    unfold fldT at hf
    split at hf
    case h_2 => cases hf
    rename_i fs hu
    obtain ⟨f, hfj, hfe⟩ := Option.map_eq_some_iff.1 hf
    simp only [Prod.mk.injEq] at hfe
    obtain ⟨rfl, rfl⟩ := hfe
    have hpl : ∀ a : Addr, (fieldPlace a f).run P V.w = .ok (a.add f.offset) V.w := by
      intro a
      have hne : n ≠ 0 := by simp at hpos; omega
      simp only [fieldPlace, Sem.run_bind, run_szOf hn, Result.andThen_ok, if_neg hne, Sem.run_pure]
    have hrun : ∀ a : Addr, (Instr.fieldAt s (.pointer (some a)) j).run P V.w = .ok (.pointer (some (a.add f.offset))) V.w := by
      intro a
      simp [Instr.fieldAt, run_und hu, hfj, Instr.sureAddr, hpl]
    cases x with
    | rptr cs =>
      simp only at h
      split at h
      · rename_i hlt
        cases h
        obtain ⟨ad, rfl, hr⟩ := rptr_drop hv hlt
        exact ⟨_, hrun ad, hr⟩
      · cases h
    | ptr id ver off =>
      simp only at h
      split at h
      · rename_i hver
        cases h
        obtain ⟨b, hb, rfl⟩ := ptr_valid hv hver
        refine ⟨_, hrun _, ?_⟩
        rw [add_lit]
        exact .ptr _ _ _ _ rfl (ptr_hd hv) (fun _ => ⟨b, hb, rfl⟩)
      · cases h
    | aptr id ver sz i f' =>
      simp only at h
      split at h
      · rename_i hver
        cases h
        obtain ⟨b, hb, rfl⟩ := aptr_valid hv hver
        refine ⟨_, hrun _, ?_⟩
        rw [add_lit, Nat.add_assoc]
        exact .aptr _ _ _ _ _ _ rfl (aptr_hd hv) (fun _ => ⟨b, hb, rfl⟩)
      · cases h
    | _ => cases h

theorem part_ok {V : Vw} {t off : Nat} {cs : List AV} {vs : Array Value} {r : AV} (hr : Reps V cs vs.toList) (hl : ∀ y ∈ cs, y.leaf = true) (h : partA P t cs off = some r) :
    ∃ u, (part t vs off).run P V.w = .ok u V.w ∧ Rep V r u := by
  have hvs : vs.size = cs.length := by simpa using hr.1
  unfold partA at h
  split at h
  · rename_i ha
    split at h
    · rename_i n hn
      split at h
      · rename_i hle
        cases h
        refine ⟨.agg (vs.extract off (off + n)), ?_, ?_⟩
        · simp only [part, Sem.run_bind, run_isAgg_true ha, Result.andThen_ok, if_true, run_szOf hn, Sem.run_pure]
        · have hr' := (hr.drop off).take n
          have he : (vs.extract off (off + n)).toList = (vs.toList.drop off).take n := by simp
          rw [← he] at hr'
          exact .agg _ _ (by rw [← Array.length_toList]; exact hr'.1) (fun y hy => hl y (List.mem_of_mem_drop (List.mem_of_mem_take hy))) (fun j x c hx hc => hr'.2 j x c hx (by rw [Array.getElem?_toList]; exact hc))
      · cases h
    · cases h
  · rename_i ha
    split at h
    · rename_i hh
      obtain ⟨c, hc, hrep⟩ := hr.get h
      refine ⟨c, ?_, hrep⟩
      have hc' : vs[off]? = some c := by simpa using hc
      simp only [part, Sem.run_bind, run_isAgg_false (by simpa using ha) hh, Result.andThen_ok, Bool.false_eq_true, if_false, hc', Sem.run_pure]
    · cases h

theorem agg_inv {V : Vw} {cs : List AV} {v : Value} (h : Rep V (.agg cs) v) : ∃ vs, v = .agg vs ∧ Reps V cs vs.toList ∧ ∀ y ∈ cs, y.leaf = true := by
  cases h with
  | agg xs vs hs hl hr => exact ⟨vs, rfl, ⟨by simpa using hs, fun j x c hx hc => hr j x c hx (by simpa using hc)⟩, hl⟩

theorem field_ok {V : Vw} {s j : Nat} {x r : AV} {v : Value} (hv : Rep V x v) (h : fieldA P s j x = some r) :
    ∃ u, (Instr.field s v j).run P V.w = .ok u V.w ∧ Rep V r u := by
  unfold fieldA at h
  split at h
  case h_2 => cases h
  rename_i ft off cs hf
  unfold fldT at hf
  split at hf
  case h_2 => cases hf
  rename_i fs hu
  obtain ⟨f, hfj, hfe⟩ := Option.map_eq_some_iff.1 hf
  simp only [Prod.mk.injEq] at hfe
  obtain ⟨rfl, rfl⟩ := hfe
  obtain ⟨vs, rfl, hr, hl⟩ := agg_inv hv
  obtain ⟨u, h1, h2⟩ := part_ok hr hl h
  exact ⟨u, by simp [Instr.field, run_und hu, hfj, asAgg, h1], h2⟩

theorem seq_at {V : Vw} {z full : Bool} {sz : Nat} {xs : List AV} {v : Value} (h : Rep V (.seq z full sz xs) v) {i : Nat} {x : AV} (hi : xs[i]? = some x) (hne : x.cells ≠ []) :
    ∃ ad c, v = .slice (some ad) xs.length c ∧ Rep V (.rptr x.cells) (.pointer (some (ad.add (i * sz)))) := by
  cases h with
  | seqNil => simp at hi
  | seq full sz xs ad c us hc hf hS h0 hsz hu hr =>
    have hx : xs ≠ [] := fun e => by subst e; simp at hi
    refine ⟨ad, c, rfl, .rptr _ _ (us i) hne (hsz x (List.mem_of_getElem? hi)).2 (by rw [add_block]; exact hS hx) (fun m y hm => ?_) (fun m y hm => hr i x m y hi hm)⟩
    rw [add_add]
    exact hu i x m y hi hm

theorem indexAddr_ok {V : Vw} (o : Ok V) {t : Nat} {x ix r : AV} {v vi : Value} (hv : Rep V x v) (hi : Rep V ix vi) (h : indexAddrA P V.mem t x ix = some r) :
    ∃ u, (Instr.indexAt t v vi).run P V.w = .ok u V.w ∧ Rep V r u := by
  unfold indexAddrA at h
  cases hi with
  | int k i =>
    simp only at h
    cases he : elemT P t with
    | some e =>
      simp only [he] at h
      unfold elemT at he
      split at he
      case h_2 => cases he
      rename_i e' hu
      cases he
      have hrun : ∀ (ad : Addr) (len c sz : Nat), szT P e = some sz → 0 ≤ i → i < len → (Instr.indexAt t (.slice (some ad) len c) (.int k i)).run P V.w = .ok (.pointer (some (ad.add (i.toNat * sz)))) V.w := by
        intro ad len c sz hsz h0 h1
        simp [Instr.indexAt, asIntOf, run_und hu, h0, h1, run_szOf hsz]
      cases x with
      | seq z full sz xs =>
        simp only at h
        split at h
        case isFalse => cases h
        rename_i hc
        obtain ⟨y, hy, hr⟩ := Option.bind_eq_some_iff.1 h
        split at hr
        · cases hr
        · rename_i hne
          cases hr
          obtain ⟨ad, c, rfl, hrep⟩ := seq_at hv hy hne
          have hlt := (List.getElem?_eq_some_iff.1 hy).1
          exact ⟨_, hrun ad _ c sz hc.1 hc.2 (by omega), hrep⟩
      | own id ver =>
        simp only at h
        cases hs : shp V.mem id with
        | none => simp [hs] at h
        | some p =>
          obtain ⟨v1, sz⟩ := p
          simp only [hs] at h
          split at h
          · rename_i hc
            obtain ⟨h1, rfl, h2, h3, h4⟩ := hc
            cases h
            have hver : verOf V.mem id = some v1 := by simp [verOf, hs]
            obtain ⟨b, hb, rfl⟩ := own_valid hv hver
            refine ⟨_, hrun _ _ _ sz h1 h3 (by omega), ?_⟩
            rw [add_lit]
            exact .aptr _ _ _ _ _ _ rfl (own_hd hv) (fun _ => ⟨b, hb, by simp⟩)
          · cases h
      | _ => cases h
    | none =>
      simp only [he] at h
      cases ha : arrT P t with
      | none => simp [ha] at h
      | some p =>
        obtain ⟨n, e⟩ := p
        simp only [ha] at h
        unfold arrT at ha
        split at ha
        case h_2 => cases ha
        rename_i n' e' hu
        simp only [Option.some.injEq, Prod.mk.injEq] at ha
        obtain ⟨rfl, rfl⟩ := ha
        cases hs : szT P e' with
        | none => simp [hs] at h
        | some sz =>
          simp only [hs] at h
          split at h
          case isFalse => cases h
          rename_i hc
          obtain ⟨h0, h1, h2⟩ := hc
          have hrun : ∀ (ad : Addr), (Instr.indexAt t (.pointer (some ad)) (.int k i)).run P V.w = .ok (.pointer (some (ad.add (i.toNat * sz)))) V.w := by
            intro ad
            simp [Instr.indexAt, asIntOf, run_und hu, Instr.sureAddr, h0, h1, run_szOf hs]
          cases x with
          | rptr cs =>
            simp only at h
            split at h
            · rename_i hlt
              cases h
              obtain ⟨ad, rfl, hr⟩ := rptr_drop hv hlt
              exact ⟨_, hrun ad, hr⟩
            · cases h
          | ptr id ver off =>
            simp only at h
            split at h
            · rename_i hver
              cases h
              obtain ⟨b, hb, rfl⟩ := ptr_valid hv hver
              refine ⟨_, hrun _, ?_⟩
              rw [add_lit]
              exact .ptr _ _ _ _ rfl (ptr_hd hv) (fun _ => ⟨b, hb, rfl⟩)
            · cases h
          | aptr id ver az j f' =>
            simp only at h
            split at h
            · rename_i hver
              cases h
              obtain ⟨b, hb, rfl⟩ := aptr_valid hv hver
              refine ⟨_, hrun _, ?_⟩
              rw [add_lit, Nat.add_assoc]
              exact .aptr _ _ _ _ _ _ rfl (aptr_hd hv) (fun _ => ⟨b, hb, rfl⟩)
            · cases h
          | _ => cases h
  | _ => cases h

theorem index_ok {V : Vw} {t : Nat} {x ix r : AV} {v vi : Value} (hv : Rep V x v) (hi : Rep V ix vi) (h : indexA P t x ix = some r) :
    ∃ u, (Instr.index t v vi).run P V.w = .ok u V.w ∧ Rep V r u := by
  unfold indexA at h
  cases hi with
  | int k i =>
    simp only at h
    split at h
    case isFalse => cases h
    rename_i h0
    cases x with
    | str s =>
      simp only at h
      split at h
      · rename_i ht
        unfold strT at ht
        split at ht
        case h_2 => cases ht
        rename_i hu
        obtain ⟨b, hb, rfl⟩ := Option.map_eq_some_iff.1 h
        cases hv
        exact ⟨_, by simp [Instr.index, asIntOf, run_und hu, h0, hb], .int _ _⟩
      · cases h
    | agg cs =>
      simp only at h
      cases ha : arrT P t with
      | none => simp [ha] at h
      | some p =>
        obtain ⟨n, e⟩ := p
        simp only [ha] at h
        unfold arrT at ha
        split at ha
        case h_2 => cases ha
        rename_i n' e' hu
        simp only [Option.some.injEq, Prod.mk.injEq] at ha
        obtain ⟨rfl, rfl⟩ := ha
        cases hs : szT P e' with
        | none => simp [hs] at h
        | some sz =>
          simp only [hs] at h
          split at h
          · rename_i hlt
            obtain ⟨vs, rfl, hr, hl⟩ := agg_inv hv
            obtain ⟨u, h1, h2⟩ := part_ok hr hl h
            exact ⟨u, by simp [Instr.index, asIntOf, run_und hu, h0, hlt, run_szOf hs, h1], h2⟩
          · cases h
    | _ => cases h
  | _ => cases h
end Go.Ab
