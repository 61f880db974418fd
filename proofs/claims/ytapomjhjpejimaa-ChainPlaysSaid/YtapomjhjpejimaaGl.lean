/- All printed functions; no condition. -/
import Derived.Test.YtapomjhjpejimaaGlx3
