/- What the row's listed variables give the walks. -/
import Derived.Test.YthhepfjjmilcnaaDoorLexC
import Derived.Lib.LaidRTab
import Derived.OpenShut
namespace Go.Proofs.YthhepfjjmilcnaaDoor
open Go.RowKit Go.Lib Lx Fl
noncomputable abbrev rdU (w : World) := DataW.trod (fun (_ : TypeId × Value) => ()) Tryd.prog w 0 (fun _ => true) false
theorem rd_float {w : World} {fuel : Nat} {t : TypeId} {k : FloatKind} {b : Nat} {cs : List Value} {p : List MemPlace} (ht : Tryd.prog.underlying t = some (.float k)) (h : rdU w fuel t cs = some (.lit (.float k b), p)) : cs = [.float k b] := by
  cases fuel with
  | zero => simp [DataW.trod] at h
  | succ n =>
    unfold rdU DataW.trod at h
    rw [ht] at h
    split at h <;> simp_all
theorem rd_int {w : World} {fuel : Nat} {t : TypeId} {k : IntKind} {z : Int} {cs : List Value} {p : List MemPlace} (ht : Tryd.prog.underlying t = some (.int k)) (h : rdU w fuel t cs = some (.lit (.int k z), p)) : cs = [.int k z] := by
  obtain ⟨n, hcs, hx, _⟩ := DataW.trod_int ht h
  simp only [Prod.mk.injEq, DataW.lit.injEq, Lit.int.injEq] at hx
  rw [hcs, hx.1.2]
theorem rd_bool {w : World} {fuel : Nat} {t : TypeId} {z : Bool} {cs : List Value} {p : List MemPlace} (ht : Tryd.prog.underlying t = some .bool) (h : rdU w fuel t cs = some (.lit (.bool z), p)) : cs = [.bool z] := by
  obtain ⟨n, hcs, hx⟩ := DataW.trod_bool ht h
  simp only [Prod.mk.injEq, DataW.lit.injEq, Lit.bool.injEq] at hx
  rw [hcs, hx.1]
theorem rd_string {w : World} {fuel : Nat} {t : TypeId} {z : List UInt8} {cs : List Value} {p : List MemPlace} (ht : Tryd.prog.underlying t = some .string) (h : rdU w fuel t cs = some (.lit (.string z), p)) : cs = [.string ⟨z.toArray⟩] := by
  obtain ⟨s, hcs, hx, _⟩ := DataW.trod_string ht h
  simp only [Prod.mk.injEq, DataW.lit.injEq, Lit.string.injEq] at hx
  rw [hcs, hx.1]
theorem var_cell {w : World} {n : String} {g : Nat} {cs : Array Value} (hg : Tryd.prog.globalNamed n = some g) (h : w.var? Tryd.prog n = some cs) (j : Nat) : w.cell? ⟨g, j, none⟩ = cs[j]? := by
  unfold World.var? at h
  rw [hg] at h
  simp only [Option.bind_eq_bind, Option.bind_some] at h
  cases hb : w.heap[g]? with
  | none => simp [hb] at h
  | some o =>
    cases o <;> simp [hb] at h
    subst h
    simp [World.cell?, hb]
/-- a variable's cells, and how they read -/
theorem var_reads {w : World} {n : String} {d : DataW Unit} {g : Nat} {t : TypeId} (h : VarReads Tryd.prog w n d) (hg : Tryd.prog.globalNamed n = some g) (ht : (Tryd.prog.globals[g]?).map (·.type) = some t) :
    ∃ cs fuel p, (∀ j, w.cell? ⟨g, j, none⟩ = cs[j]?) ∧ rdU w fuel t cs = some (d, p) := by
  obtain ⟨g', t', cs, fuel, p, h1, h2, h3, h4⟩ := h
  obtain rfl := Option.some.inj (hg.symm.trans h1)
  obtain rfl := Option.some.inj (ht.symm.trans h2)
  exact ⟨cs.toList, fuel, p, fun j => by rw [var_cell hg h3 j]; simp, h4⟩
theorem rd_slice {w : World} {fuel : Nat} {t e : TypeId} {c : Nat} {cs : List Value} {ds : List (DataW Unit)} {p : List MemPlace} (ht : Tryd.prog.underlying t = some (.slice e)) (hc : Tryd.prog.cellsOf e = c) (h0 : 0 < c)
    (h : rdU w fuel t cs = some (.slice ds [], p)) (hd : ds ≠ []) : ∃ b off cap n, cs = [.slice (some ⟨b, off, none⟩) ds.length cap] ∧ ∀ i (hi : i < ds.length), ∃ ce p', ce.length = c ∧ (∀ j, j < c → w.cell? ⟨b, off + i * c + j, none⟩ = ce[j]?) ∧ rdU w n e ce = some (ds[i], p') := by
  rcases DataW.trod_slice ht h with ⟨_, hx⟩ | ⟨a, len, cap, el, rs, m, _, hcs, hx, _, _, _, hel, helem, _⟩
  · cases hx
  · simp only [Prod.mk.injEq, DataW.slice.injEq] at hx
    obtain ⟨⟨hE, _⟩, _⟩ := hx
    have hlen : ds.length = len := by rw [hE, List.length_map, hel]
    have hrow : ∀ i (hi : i < ds.length), ∃ ce p', ce.length = c ∧ (∀ j, j < c → w.cell? ((a.add (i * c)).add j) = ce[j]?) ∧ rdU w m e ce = some (ds[i], p') := fun i hi => by
      have h1 := helem i (by omega)
      rw [hc] at h1
      have hi2 : i < el.length := by omega
      rw [List.getElem?_eq_getElem hi2] at h1
      obtain ⟨ce, hce, hte⟩ := Option.bind_eq_some_iff.1 h1
      obtain ⟨_, hl, hcc⟩ := World.cells?_some hce
      refine ⟨ce, el[i].2, hl, hcc, ?_⟩
      rw [show ds[i] = el[i].1 by simp [hE]]
      exact hte
    obtain ⟨R, o, sR⟩ := a
    have hpos : 0 < ds.length := by cases ds with | nil => exact absurd rfl hd | cons _ _ => simp
    obtain rfl : sR = none := by
      obtain ⟨ce, p', hl, hcc, _⟩ := hrow 0 hpos
      have h00 := hcc 0 h0
      have e0 : (Addr.add (Addr.add ⟨R, o, sR⟩ (0 * c)) 0) = ⟨R, o, sR⟩ := by simp [Addr.add]
      rw [e0, List.getElem?_eq_getElem (by omega)] at h00
      exact cell_spot h00
    refine ⟨R, o, cap, m, by rw [hcs, hlen], fun i hi => ?_⟩
    obtain ⟨ce, p', hl, hcc, hr⟩ := hrow i hi
    refine ⟨ce, p', hl, fun j hj => ?_, hr⟩
    have := hcc j hj
    rwa [Addr.add_lit, Addr.add_lit] at this
theorem rd_array {w : World} {fuel N : Nat} {t e : TypeId} {c : Nat} {cs : List Value} {ds : List (DataW Unit)} {p : List MemPlace} (ht : Tryd.prog.underlying t = some (.array N e)) (hc : Tryd.prog.cellsOf e = c) (hT : Tryd.prog.cellsOf t = N * c)
    (h : rdU w fuel t cs = some (.agg ds, p)) : ∃ n, ds.length = N ∧ ∀ i (hi : i < ds.length), ∃ ce p', ce.length = c ∧ (∀ j, j < c → cs[i * c + j]? = ce[j]?) ∧ rdU w n e ce = some (ds[i], p') := by
  obtain ⟨xs, m, _, hx, hl, hxl, hel⟩ := DataW.trod_array ht h
  simp only [Prod.mk.injEq, DataW.agg.injEq] at hx
  obtain ⟨hE, _⟩ := hx
  have hlen : ds.length = N := by rw [hE, List.length_map, hxl]
  refine ⟨m, hlen, fun i hi => ?_⟩
  have h1 := hel i (by omega)
  rw [hc, List.getElem?_eq_getElem (by omega)] at h1
  have hb : i * c + c ≤ N * c := by
    rw [← Nat.succ_mul]; exact Nat.mul_le_mul_right _ (by omega)
  refine ⟨(cs.drop (i * c)).take c, xs[i].2, by rw [List.length_take, List.length_drop, hl, hT]; omega, fun j hj => ?_, ?_⟩
  · rw [List.getElem?_take_of_lt hj, List.getElem?_drop]
  · rw [show ds[i] = xs[i].1 by simp [hE]]
    exact h1
theorem len2 {α : Type} : ∀ {l : List α}, l.length = 2 → ∃ a b, l = [a, b]
  | [a, b], _ => ⟨a, b, rfl⟩
  | [], h => by simp at h
  | [_], h => by simp at h
  | _ :: _ :: _ :: _, h => by simp at h
theorem len3 {α : Type} : ∀ {l : List α}, l.length = 3 → ∃ a b c, l = [a, b, c]
  | [a, b, c], _ => ⟨a, b, c, rfl⟩
  | [], h => by simp at h
  | [_], h => by simp at h
  | [_, _], h => by simp at h
  | _ :: _ :: _ :: _ :: _, h => by simp at h
theorem map_get {α β : Type} (R : List α) (f : α → β) (d : α) (i : Nat) (hi : i < (R.map f).length) : (R.map f)[i]'hi = f (R.getD i d) := by
  rw [List.getElem_map, List.getD_eq_getElem?_getD, List.getElem?_eq_getElem (by simpa using hi)]
  rfl
/-- a struct of two fields of one cell each -/
theorem rd_two {w : World} {fuel : Nat} {t : TypeId} {f0 f1 : Field} {cs : List Value} {d0 d1 : DataW Unit} {p : List MemPlace} (ht : Tryd.prog.underlying t = some (.struct #[f0, f1])) (h0 : f0.offset = 0) (h1 : f1.offset = 1) (c0 : Tryd.prog.cellsOf f0.type = 1) (c1 : Tryd.prog.cellsOf f1.type = 1) (hT : Tryd.prog.cellsOf t = 2)
    (h : rdU w fuel t cs = some (.agg [d0, d1], p)) : ∃ a b n p0 p1, cs = [a, b] ∧ rdU w n f0.type [a] = some (d0, p0) ∧ rdU w n f1.type [b] = some (d1, p1) := by
  obtain ⟨xs, m, _, hx, hl, hxl, hel⟩ := DataW.trod_struct ht h
  simp only [Prod.mk.injEq, DataW.agg.injEq] at hx
  obtain ⟨hE, _⟩ := hx
  rw [hT] at hl
  obtain ⟨a, b, rfl⟩ := len2 hl
  obtain ⟨y0, y1, rfl⟩ := len2 (show xs.length = 2 from hxl)
  have g0 := hel 0 f0 rfl
  have g1 := hel 1 f1 rfl
  clear hel ht h
  injection hE with e0 hE
  injection hE with e1 _
  subst e0
  subst e1
  rw [h0, c0] at g0
  rw [h1, c1] at g1
  exact ⟨a, b, m, y0.2, y1.2, rfl, g0, g1⟩
theorem rd_three {w : World} {fuel : Nat} {t : TypeId} {f0 f1 f2 : Field} {cs : List Value} {d0 d1 d2 : DataW Unit} {p : List MemPlace} (ht : Tryd.prog.underlying t = some (.struct #[f0, f1, f2])) (h0 : f0.offset = 0) (h1 : f1.offset = 1) (h2 : f2.offset = 2) (c0 : Tryd.prog.cellsOf f0.type = 1) (c1 : Tryd.prog.cellsOf f1.type = 1) (c2 : Tryd.prog.cellsOf f2.type = 1) (hT : Tryd.prog.cellsOf t = 3)
    (h : rdU w fuel t cs = some (.agg [d0, d1, d2], p)) : ∃ a b c n p0 p1 p2, cs = [a, b, c] ∧ rdU w n f0.type [a] = some (d0, p0) ∧ rdU w n f1.type [b] = some (d1, p1) ∧ rdU w n f2.type [c] = some (d2, p2) := by
  obtain ⟨xs, m, _, hx, hl, hxl, hel⟩ := DataW.trod_struct ht h
  simp only [Prod.mk.injEq, DataW.agg.injEq] at hx
  obtain ⟨hE, _⟩ := hx
  rw [hT] at hl
  obtain ⟨a, b, c, rfl⟩ := len3 hl
  obtain ⟨y0, y1, y2, rfl⟩ := len3 (show xs.length = 3 from hxl)
  have g0 := hel 0 f0 rfl
  have g1 := hel 1 f1 rfl
  have g2 := hel 2 f2 rfl
  clear hel ht h
  injection hE with e0 hE
  injection hE with e1 hE
  injection hE with e2 _
  subst e0
  subst e1
  subst e2
  rw [h0, c0] at g0
  rw [h1, c1] at g1
  rw [h2, c2] at g2
  exact ⟨a, b, c, m, y0.2, y1.2, y2.2, rfl, g0, g1, g2⟩
/-- a named variable of the program, by the kernel -/
theorem pow10_at {w : World} (h : VarReads Tryd.prog w "internal/strconv.pow10Tab" Go.Pinned.pow10Tab) : PowAt w := by
  obtain ⟨cs, fuel, p, hc, hr⟩ := var_reads h (g := 9) (t := 129) (by kernel_rfl) (by kernel_rfl)
  obtain ⟨n, hl, he⟩ := rd_array (c := 2) Tryd.underlying129 (by kernel_rfl) (by kernel_rfl) hr
  intro i hi
  have hi2 : i < (Go.Pinned.pow10Rows.map fun x => (DataW.agg [.lit (.int .u64 x.1), .lit (.int .u64 x.2)] : DataW Unit)).length := by rw [hl]; exact hi
  obtain ⟨ce, p', hcl, hcc, hrr⟩ := he i hi2
  have hg : (Go.Pinned.pow10Rows.map fun x => (DataW.agg [.lit (.int .u64 x.1), .lit (.int .u64 x.2)] : DataW Unit))[i]'hi2 = DataW.agg [.lit (.int .u64 (powHi i)), .lit (.int .u64 (powLo i))] := by
    exact map_get Go.Pinned.pow10Rows _ (0, 0) i hi2
  rw [hg] at hrr
  obtain ⟨a, b, m, p0, p1, rfl, r0, r1⟩ := rd_two Tryd.underlying128 rfl rfl (by kernel_rfl) (by kernel_rfl) (by kernel_rfl) hrr
  have e0 := rd_int Tryd.underlying80 r0
  have e1 := rd_int Tryd.underlying80 r1
  injection e0 with e0 _
  injection e1 with e1 _
  subst e0
  subst e1
  exact ⟨by rw [hc]; exact hcc 0 (by decide), by rw [hc]; exact hcc 1 (by decide)⟩
theorem flt_info {w : World} (h : VarReads Tryd.prog w "internal/strconv.float64info" Rows.laid_internal_strconv_float64info) :
    w.cell? ⟨5, 0, none⟩ = some (.int .u64 52) ∧ w.cell? ⟨5, 1, none⟩ = some (.int .u64 11) ∧ w.cell? ⟨5, 2, none⟩ = some (.int .i64 (-1023)) := by
  obtain ⟨cs, fuel, p, hc, hr⟩ := var_reads h (g := 5) (t := 86) (by kernel_rfl) (by kernel_rfl)
  obtain ⟨a, b, c, n, p0, p1, p2, rfl, r0, r1, r2⟩ := rd_three Tryd.underlying86 rfl rfl rfl (by kernel_rfl) (by kernel_rfl) (by kernel_rfl) (by kernel_rfl) hr
  have e0 := rd_int Tryd.underlying65 r0
  have e1 := rd_int Tryd.underlying65 r1
  have e2 := rd_int Tryd.underlying3 r2
  injection e0 with e0 _
  injection e1 with e1 _
  injection e2 with e2 _
  subst e0
  subst e1
  subst e2
  exact ⟨hc 0, hc 1, hc 2⟩
theorem opt_at {w : World} (h : VarReads Tryd.prog w "internal/strconv.optimize" Rows.laid_internal_strconv_optimize) : w.cell? ⟨4, 0, none⟩ = some (.bool true) := by
  obtain ⟨cs, fuel, p, hc, hr⟩ := var_reads h (g := 4) (t := 4) (by kernel_rfl) (by kernel_rfl)
  have e0 := rd_bool Tryd.underlying4 hr
  subst e0
  exact hc 0
theorem p10_eq : Rows.laid_internal_strconv_float64pow10 = (.slice ((List.range 23).map fun i => .lit (.float .f64 (p10 i))) [] : DataW Unit) := by kernel_rfl
theorem ptab_eq : Rows.laid_internal_strconv_powtab = (.slice ((List.range 9).map fun i => .lit (.int .i64 ([1, 3, 6, 9, 13, 16, 19, 23, 26].getD i 0))) [] : DataW Unit) := by kernel_rfl
theorem range_get {β : Type} (n : Nat) (f : Nat → β) (i : Nat) (hi : i < ((List.range n).map f).length) : ((List.range n).map f)[i]'hi = f i := by simp
theorem p10_at {w : World} (h : VarReads Tryd.prog w "internal/strconv.float64pow10" Rows.laid_internal_strconv_float64pow10) :
    ∃ b off cap, w.cell? ⟨8, 0, none⟩ = some (.slice (some ⟨b, off, none⟩) 23 cap) ∧ ∀ i, i < 23 → w.cell? ⟨b, off + i, none⟩ = some (.float .f64 (p10 i)) := by
  rw [p10_eq] at h
  obtain ⟨cs, fuel, p, hc, hr⟩ := var_reads h (g := 8) (t := 124) (by kernel_rfl) (by kernel_rfl)
  obtain ⟨b, off, cap, n, rfl, he⟩ := rd_slice (c := 1) Tryd.underlying124 (by kernel_rfl) (by decide) hr (by simp)
  refine ⟨b, off, cap, by have := hc 0; simpa using this, fun i hi => ?_⟩
  obtain ⟨ce, p', hl, hcc, hrr⟩ := he i (by simpa using hi)
  rw [range_get] at hrr
  have e0 := rd_float Tryd.underlying43 hrr
  subst e0
  have := hcc 0 (by decide)
  simpa using this
theorem ptab_at {w : World} (h : VarReads Tryd.prog w "internal/strconv.powtab" Rows.laid_internal_strconv_powtab) :
    ∃ b off cap, w.cell? ⟨7, 0, none⟩ = some (.slice (some ⟨b, off, none⟩) 9 cap) ∧ ∀ i, i < 9 → w.cell? ⟨b, off + i, none⟩ = some (.int .i64 ([1, 3, 6, 9, 13, 16, 19, 23, 26].getD i 0)) := by
  rw [ptab_eq] at h
  obtain ⟨cs, fuel, p, hc, hr⟩ := var_reads h (g := 7) (t := 122) (by kernel_rfl) (by kernel_rfl)
  obtain ⟨b, off, cap, n, rfl, he⟩ := rd_slice (c := 1) Tryd.underlying122 (by kernel_rfl) (by decide) hr (by simp)
  refine ⟨b, off, cap, by have := hc 0; simpa using this, fun i hi => ?_⟩
  obtain ⟨ce, p', hl, hcc, hrr⟩ := he i (by simpa using hi)
  rw [range_get] at hrr
  have e0 := rd_int Tryd.underlying3 hrr
  subst e0
  have := hcc 0 (by decide)
  rw [Nat.add_zero, Nat.mul_one] at this
  exact this
theorem cheats_len : (Go.Pinned.cheatRows.map fun x => (DataW.agg [.lit (.int .i64 x.1), .lit (.string x.2)] : DataW Unit)).length = 61 := by kernel_rfl
theorem cheats_at {w : World} (h : VarReads Tryd.prog w "internal/strconv.leftcheats" Go.Pinned.leftcheats) :
    ∃ b off cap, w.cell? ⟨10, 0, none⟩ = some (.slice (some ⟨b, off, none⟩) 61 cap) ∧ ∀ i, i < 61 → w.cell? ⟨b, off + i * 2, none⟩ = some (.int .i64 (Go.Pinned.cheatRows.getD i (0, [])).1) ∧ w.cell? ⟨b, off + i * 2 + 1, none⟩ = some (.string ⟨(Go.Pinned.cheatRows.getD i (0, [])).2.toArray⟩) := by
  obtain ⟨cs, fuel, p, hc, hr⟩ := var_reads h (g := 10) (t := 140) (by kernel_rfl) (by kernel_rfl)
  obtain ⟨b, off, cap, n, rfl, he⟩ := rd_slice (c := 2) Tryd.underlying140 (by kernel_rfl) (by decide) hr (fun e => by have := cheats_len; rw [e] at this; cases this)
  rw [cheats_len] at hc
  refine ⟨b, off, cap, by have := hc 0; simpa using this, fun i hi => ?_⟩
  obtain ⟨ce, p', hl, hcc, hrr⟩ := he i (by rw [cheats_len]; exact hi)
  rw [map_get Go.Pinned.cheatRows _ (0, [])] at hrr
  obtain ⟨a, b', m, p0, p1, rfl, r0, r1⟩ := rd_two Tryd.underlying139 rfl rfl (by kernel_rfl) (by kernel_rfl) (by kernel_rfl) hrr
  have e0 := rd_int Tryd.underlying3 r0
  have e1 := rd_string Tryd.underlying9 r1
  injection e0 with e0 _
  injection e1 with e1 _
  subst e0
  subst e1
  exact ⟨hcc 0 (by decide), hcc 1 (by decide)⟩
theorem iface_cells {P : Program} {w : World} {fuel : Nat} {t : TypeId} {ms : Array (String × TypeId)} {cs : List Value} {x : DataW Unit × List MemPlace} (ht : P.underlying t = some (.interface ms)) (h : DataW.trod (fun (_ : TypeId × Value) => ()) P w 0 (fun _ => true) false fuel t cs = some x) : cs = [.nilIface] ∨ ∃ u v, cs = [.iface u v] := by
  cases fuel with
  | zero => simp [DataW.trod] at h
  | succ n =>
    unfold DataW.trod at h
    rw [ht] at h
    split at h <;> simp_all
theorem err_at {w : World} {d : DataW Unit} (h : VarReads Tryd.prog w "strconv.ErrRange" d) : ErrAt w := by
  obtain ⟨cs, fuel, p, hc, hr⟩ := var_reads h (g := 2) (t := 45) (by kernel_rfl) (by kernel_rfl)
  rcases iface_cells Tryd.underlying45 hr with rfl | ⟨u, v, rfl⟩
  · exact ⟨_, hc 0, .inl rfl⟩
  · exact ⟨_, hc 0, .inr ⟨u, v, rfl⟩⟩
theorem laid_all {w : World} {l : List (String × DataW Unit)} (h : laidMet Tryd.prog l w) (m0 : ("internal/strconv.pow10Tab", Go.Pinned.pow10Tab) ∈ l) (m1 : ("internal/strconv.float64info", Rows.laid_internal_strconv_float64info) ∈ l) (m2 : ("internal/strconv.optimize", Rows.laid_internal_strconv_optimize) ∈ l)
    (m3 : ("internal/strconv.float64pow10", Rows.laid_internal_strconv_float64pow10) ∈ l) (m4 : ("internal/strconv.powtab", Rows.laid_internal_strconv_powtab) ∈ l) (m5 : ("internal/strconv.leftcheats", Go.Pinned.leftcheats) ∈ l) (m6 : ("strconv.ErrRange", Rows.laid_strconv_ErrRange) ∈ l) : FltLaid w ∧ ErrAt w := by
  obtain ⟨i0, i1, i2⟩ := flt_info (laidMet.reads h m1)
  exact ⟨⟨pow10_at (laidMet.reads h m0), i0, i1, i2, opt_at (laidMet.reads h m2), p10_at (laidMet.reads h m3), ptab_at (laidMet.reads h m4), cheats_at (laidMet.reads h m5)⟩, err_at (laidMet.reads h m6)⟩
theorem maxLen_at {w : World} (h : w.ShapedOpen Tryd.prog) : ∃ m, w.cell? ⟨0, 0, none⟩ = some (.int .i64 m) :=
  Go.Proofs.cell_of_shapedOpen_int (zero := #[.int .i64 0]) (t := 3) h (of_decide_eq_true (by kernel_rfl)) (by kernel_rfl) rfl (by kernel_rfl) (by kernel_rfl) Tryd.underlying3
end Go.Proofs.YthhepfjjmilcnaaDoor
