/- Bytes: a slice of bytes made a string. -/
import Derived.Test.YtdmdnhceiddcfaaGreatSlc
import Derived.Laws.BytesString
set_option linter.all false
namespace Go.Sl
open Go.RowKit

def byteE : Enc UInt8 := ⟨fun x => [.int .u8 x.toNat], 1, fun _ => rfl, by simp [Value.oneCell'], by omega⟩
theorem byteE_flat (l : List UInt8) : byteE.flat l = l.map fun x => .int .u8 x.toNat := by
  induction l with
  | nil => rfl
  | cons x l ih => simp only [Enc.flat, List.flatMap_cons, List.map_cons] at ih ⊢; rw [ih]; rfl

theorem foldl_push (l : List UInt8) : ∀ s : ByteArray, (l.map fun x : UInt8 => (x.toNat : Int)).foldl (fun r n => r.push (UInt8.ofNat n.toNat)) s = ⟨s.data ++ l.toArray⟩ := by
  induction l with
  | nil => intro s; simp
  | cons x l ih =>
    intro s
    simp only [List.map_cons, List.foldl_cons]
    rw [ih]
    simp [ByteArray.push]

theorem run_bytes_str {P : Program} {w : World} {v : Value} {l : List UInt8} (src dst e : TypeId) (hs : P.underlying src = some (.slice e)) (he : P.underlying e = some (.int .u8)) (hd : P.underlying dst = some .string) (h : Rd w byteE v l) :
    (convert src dst v).run P w = .ok (.string ⟨l.toArray⟩) w := by
  rcases h with ⟨⟨A, cap, rfl, _⟩, rfl⟩ | ⟨g, off, cap, rfl, _, _, hc⟩
  · rw [run_convert_bytes_string w src dst e _ _ _ hs he hd]
    cases A <;> rfl
  · rw [run_convert_bytes_string w src dst e _ _ _ hs he hd]
    have hl : (loadCells ⟨g, off, none⟩ l.length).run P w = .ok ((l.map fun x : UInt8 => (x.toNat : Int)).map (Value.int .u8)).toArray w := by
      have := run_loadCells_list (P := P) (w := w) ⟨g, off, none⟩ ((l.map fun x : UInt8 => (x.toNat : Int)).map (Value.int .u8)) (by
        intro j u hu
        have hadd : (⟨g, off, none⟩ : Addr).add j = ⟨g, off + j, none⟩ := by unfold Addr.add; split <;> simp_all
        rw [hadd]
        simp only [List.map_map, List.getElem?_map, Option.map_eq_some_iff] at hu
        obtain ⟨x, hx, rfl⟩ := hu
        have := hc j x hx 0 _ rfl
        simpa [byteE] using this)
      simpa using this
    rw [run_bytesToString w _ _ _ _ hl, foldl_push]
    simp [ByteArray.empty, ByteArray.emptyWithCapacity]
    rfl

theorem wpList_bytes_str {P : Program} {w : World} {ops : Array Oper} {rest : List Oper} {q : Oper} {act : Act} {Q : Exit → Act → World → Prop} (hgd : q.guard = none) (x : Operand) (src dst e : TypeId) (ho : q.op = .convert src dst x)
    (hs : P.underlying src = some (.slice e)) (he : P.underlying e = some (.int .u8)) (hd : P.underlying dst = some .string) (v : Value) (l : List UInt8) (hx : act.eval x = v) (h : Rd w byteE v l)
    (hk : wpList P ops Q rest (act.put q.dst (.string ⟨l.toArray⟩)) w) : wpList P ops Q (q :: rest) act w := by
  refine wpList_plain hgd fun K hK => ?_
  unfold Oper.wp execOp
  simp only [ho, Sem.run_bind, Sem.run_pure, Result.andThen_ok, hx, run_bytes_str src dst e hs he hd h]
  exact hK _ _ hk
end Go.Sl
