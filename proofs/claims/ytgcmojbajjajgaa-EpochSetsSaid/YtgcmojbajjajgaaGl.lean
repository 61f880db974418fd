/- All printed functions; no condition. -/
import Derived.Test.YtgcmojbajjajgaaGlx2
