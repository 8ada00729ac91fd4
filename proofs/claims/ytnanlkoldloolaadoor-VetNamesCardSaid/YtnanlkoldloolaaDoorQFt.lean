/- Vet: VetNames, whole. -/
import Derived.Test.YtnanlkoldloolaaDoorQ17
import Derived.Test.YtnanlkoldloolaaDoorQFm
namespace Go.Proofs.YtnanlkoldloolaaDoor
open Go.RowKit

theorem vetNames_arg (v : Value) (x : List W × List (Int × Int) × Int × List Int) (pick far : Int) (w : World) (h : ImgArg w v x) (hp : 0 ≤ pick ∧ pick ≤ 65535) (hf : 0 ≤ far ∧ far ≤ 65535) (ga : Addr) (hg : Gives w 182 (.pointer (some ga))) :
   Calls Tryd.prog 6 #[v, .int .u16 pick, .int .u16 far] w fun e w' => e = .returned (.bool true) ∧ Below w.heap.size w w' := by
  obtain ⟨wv, ev, dv, rfl, h1, h2, h3, h4, h5⟩ := h
  exact vetNames_of wv x.1 ev x.2.1 x.2.2.1 dv x.2.2.2 pick far w hp hf h1 h3 h4 _ _ hg (GoodD x.2.2.2)
    (fun h W a b l2 pa pc hW hA hb hp => check_any a l2 b x.2.1 x.2.2.1 pa x.2.2.2.length pc W hA hb (GoodD x.2.2.2) goodD_sites (decode_good hp h5 (by omega) (gives_below hg hW)))
    (fun h W a b pa pc _ hA hb hp => refcheck_any a x.1 b x.2.1 x.2.2.1 pa x.2.2.2.length pc W hA hb (GoodD x.2.2.2) goodD_sites (fun y hy W => refForm_at (h2 y hy) W) (refdec_good hp h5 (by omega)))
end Go.Proofs.YtnanlkoldloolaaDoor
